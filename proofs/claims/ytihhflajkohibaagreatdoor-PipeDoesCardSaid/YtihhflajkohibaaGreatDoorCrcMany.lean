/- The plain law of layer 5: the sum of bytes as a function on lists of bytes; no program in sight. -/
import Derived.Test.YtihhflajkohibaaGreatDoorRows
import Derived.WalkKit
import Derived.Lib.Hide
import Derived.Test.YtihhflajkohibaaGreatDoorMem
import Derived.Laws.BytesArg
import Derived.Deep.QuietTactic
import Derived.BigQuiet
import Derived.Deep.RegionWith
import Derived.Lib.Strings
import Derived.Deep.RegionHeld3
namespace Crc
set_option linter.unusedSimpArgs false
set_option linter.unusedVariables false
set_option maxRecDepth 100000

/-- what becomes of four bits -/
def tabL : List Nat := [0, 498536548, 997073096, 651767980, 1994146192, 1802195444, 1303535960, 1342533948, 3988292384, 4027552580, 3604390888, 3412177804, 2607071920, 2262029012, 2685067896, 3183342108]
def tab (n : Nat) : BitVec 32 := BitVec.ofNat 32 (tabL.getD n 0)
def poly : BitVec 32 := 3988292384#32
def bit (c : BitVec 32) : BitVec 32 := (c >>> 1) ^^^ (if c.getLsbD 0 then poly else 0)
def nib (c : BitVec 32) : BitVec 32 := (c >>> 4) ^^^ tab (c &&& 15#32).toNat
def ofByte (b : UInt8) : BitVec 32 := BitVec.ofNat 32 b.toNat
def byte (c : BitVec 32) (b : UInt8) : BitVec 32 := nib (nib (c ^^^ ofByte b))
def run (c : BitVec 32) (l : List UInt8) : BitVec 32 := l.foldl byte c
def more (s : BitVec 32) (l : List UInt8) : BitVec 32 := ~~~ (run (~~~ s) l)
def sum (l : List UInt8) : BitVec 32 := more 0 l
def b8 (n : Nat) : UInt8 := UInt8.ofNat n
def tail (s : BitVec 32) : List UInt8 := [b8 (s.toNat / 16777216), b8 (s.toNat / 65536), b8 (s.toNat / 256), b8 s.toNat]
def isGood (l : List UInt8) : Bool := decide (4 ≤ l.length) && (l.drop (l.length - 4) == tail (sum (l.take (l.length - 4))))
def good (l : List UInt8) : List UInt8 := if isGood l then l.take (l.length - 4) else []

/-! the single bit -/
theorem xor_comm4 (a b c d : BitVec 32) : (a ^^^ b) ^^^ (c ^^^ d) = (a ^^^ c) ^^^ (b ^^^ d) := by
  rw [BitVec.xor_assoc, BitVec.xor_assoc, ← BitVec.xor_assoc b c d, BitVec.xor_comm b c, BitVec.xor_assoc c b d]

theorem bit_xor (a b : BitVec 32) : bit (a ^^^ b) = bit a ^^^ bit b := by
  unfold bit
  rw [xor_comm4]
  congr 1
  · exact BitVec.ushiftRight_xor_distrib ..
  · simp only [BitVec.getLsbD_xor]
    cases a.getLsbD 0 <;> cases b.getLsbD 0 <;> simp

theorem bit_inj {a b : BitVec 32} (h : bit a = bit b) : a = b := by
  have h31 : ∀ c : BitVec 32, (bit c).getLsbD 31 = c.getLsbD 0 := by
    intro c
    unfold bit
    simp only [BitVec.getLsbD_xor, BitVec.getLsbD_ushiftRight]
    rw [BitVec.getLsbD_of_ge c (1 + 31) (by omega)]
    cases c.getLsbD 0 <;> decide
  have h0 : a.getLsbD 0 = b.getLsbD 0 := by rw [← h31 a, ← h31 b, h]
  have hs : a >>> 1 = b >>> 1 := by
    unfold bit at h
    rw [h0] at h
    have := congrArg (· ^^^ (if b.getLsbD 0 = true then poly else 0)) h
    simpa [BitVec.xor_assoc] using this
  apply BitVec.eq_of_getLsbD_eq
  intro i hi
  rcases i with _ | i
  · exact h0
  · have := congrArg (·.getLsbD i) hs
    simp only [BitVec.getLsbD_ushiftRight] at this
    rw [show i + 1 = 1 + i from by omega]; exact this

def iter (f : BitVec 32 → BitVec 32) : Nat → BitVec 32 → BitVec 32
  | 0, c => c
  | n + 1, c => iter f n (f c)

theorem iter_add (f : BitVec 32 → BitVec 32) (m n : Nat) (c : BitVec 32) : iter f (m + n) c = iter f n (iter f m c) := by
  induction m generalizing c with
  | zero => simp [iter]
  | succ m ih => rw [show m + 1 + n = (m + n) + 1 from by omega]; simp only [iter]; exact ih _

theorem iter_xor (n : Nat) (a b : BitVec 32) : iter bit n (a ^^^ b) = iter bit n a ^^^ iter bit n b := by
  induction n generalizing a b with
  | zero => rfl
  | succ n ih => simp only [iter]; rw [bit_xor]; exact ih _ _

theorem iter_inj (n : Nat) {a b : BitVec 32} (h : iter bit n a = iter bit n b) : a = b := by
  induction n generalizing a b with
  | zero => exact h
  | succ n ih => exact bit_inj (ih h)

theorem iter_high (n : Nat) (c : BitVec 32) (h : ∀ i, i < n → c.getLsbD i = false) : iter bit n c = c >>> n := by
  induction n generalizing c with
  | zero => simp [iter]
  | succ n ih =>
    simp only [iter]
    have hb : bit c = c >>> 1 := by
      unfold bit; rw [h 0 (by omega)]; simp
    rw [hb, ih]
    · rw [← BitVec.shiftRight_add, show 1 + n = n + 1 from by omega]
    · intro i hi
      simp only [BitVec.getLsbD_ushiftRight]
      rw [show 1 + i = i + 1 from by omega]
      exact h (i + 1) (by omega)

theorem low_cases (c : BitVec 32) : iter bit 4 (c &&& 15#32) = tab (c &&& 15#32).toNat := by
  have hlt : (c &&& 15#32).toNat < 16 := by
    rw [BitVec.toNat_and]
    exact Nat.lt_of_le_of_lt Nat.and_le_right (by decide)
  have key : ∀ n : Fin 16, iter bit 4 (BitVec.ofNat 32 n.val) = tab n.val := by decide
  have := key ⟨(c &&& 15#32).toNat, hlt⟩
  simpa using this

theorem nib_eq (c : BitVec 32) : nib c = iter bit 4 c := by
  have hsplit : c = (c &&& ~~~ 15#32) ^^^ (c &&& 15#32) := by
    apply BitVec.eq_of_getLsbD_eq
    intro i hi
    simp only [BitVec.getLsbD_xor, BitVec.getLsbD_and, BitVec.getLsbD_not]
    cases c.getLsbD i <;> cases (15#32).getLsbD i <;> simp [hi]
  have hlow : ∀ i, i < 4 → (c &&& ~~~ 15#32).getLsbD i = false := by
    intro i hi
    simp only [BitVec.getLsbD_and, BitVec.getLsbD_not]
    rcases i with _ | _ | _ | _ | i <;> simp <;> omega
  have hsh : (c &&& ~~~ 15#32) >>> 4 = c >>> 4 := by
    apply BitVec.eq_of_getLsbD_eq
    intro i hi
    simp only [BitVec.getLsbD_ushiftRight, BitVec.getLsbD_and, BitVec.getLsbD_not]
    have : (15#32).getLsbD (4 + i) = false := by
      simp only [BitVec.getLsbD, BitVec.toNat_ofNat]
      apply Nat.testBit_lt_two_pow
      exact Nat.lt_of_lt_of_le (by decide : 15 % 2 ^ 32 < 2 ^ 4) (Nat.pow_le_pow_right (by omega) (by omega))
    rw [this]
    by_cases h32 : 4 + i < 32
    · simp [h32]
    · simp [h32, BitVec.getLsbD_of_ge c (4 + i) (by omega)]
  unfold nib
  conv => rhs; rw [hsplit, iter_xor, iter_high 4 _ hlow, low_cases, hsh]

theorem byte_eq (c : BitVec 32) (b : UInt8) : byte c b = iter bit 8 (c ^^^ ofByte b) := by
  unfold byte; rw [nib_eq, nib_eq, ← iter_add]

/-! rows -/
theorem run_append (c : BitVec 32) (a b : List UInt8) : run c (a ++ b) = run (run c a) b := by simp [run]
theorem run_cons (c : BitVec 32) (x : UInt8) (l : List UInt8) : run c (x :: l) = run (byte c x) l := rfl
theorem run_inj (l : List UInt8) {a b : BitVec 32} (h : run a l = run b l) : a = b := by
  induction l generalizing a b with
  | nil => exact h
  | cons x l ih =>
    have := ih h
    rw [byte_eq, byte_eq] at this
    have := iter_inj 8 this
    have := congrArg (· ^^^ ofByte x) this
    simpa [BitVec.xor_assoc] using this

theorem more_nil (s : BitVec 32) : more s [] = s := by simp [more, run]
theorem more_append (s : BitVec 32) (a b : List UInt8) : more s (a ++ b) = more (more s a) b := by
  unfold more; rw [run_append, BitVec.not_not]
theorem sum_append (a b : List UInt8) : sum (a ++ b) = more (sum a) b := more_append 0 a b

/-- the state is the start's, xored with what the row makes of nought -/
theorem run_xor (l m : List UInt8) (h : l.length = m.length) (a b : BitVec 32) :
    run a l ^^^ run b m = run (a ^^^ b) (List.zipWith (· ^^^ ·) l m) := by
  induction l generalizing m a b with
  | nil => cases m with
    | nil => rfl
    | cons _ _ => simp at h
  | cons x l ih =>
    cases m with
    | nil => simp at h
    | cons y m =>
      simp only [run_cons, List.zipWith_cons_cons]
      rw [ih m (by simpa using h)]
      congr 1
      rw [byte_eq, byte_eq, byte_eq, ← iter_xor]
      congr 1
      rw [xor_comm4]
      congr 1
      simp only [ofByte]
      apply BitVec.eq_of_toNat_eq
      have hx := x.toNat_lt
      have hy := y.toNat_lt
      have hxy := (x ^^^ y).toNat_lt
      rw [BitVec.toNat_xor, BitVec.toNat_ofNat, BitVec.toNat_ofNat, BitVec.toNat_ofNat]
      rw [Nat.mod_eq_of_lt (by omega), Nat.mod_eq_of_lt (by omega), Nat.mod_eq_of_lt (by omega)]
      simp

theorem sum_mix (a b c : List UInt8) (hb : b.length = a.length) (hc : c.length = a.length) :
    sum (List.zipWith (· ^^^ ·) (List.zipWith (· ^^^ ·) a b) c) = sum a ^^^ sum b ^^^ sum c := by
  unfold sum more
  have h1 := run_xor a b hb.symm (~~~ 0) (~~~ 0)
  have h2 := run_xor (List.zipWith (· ^^^ ·) a b) c (by simp [hb, hc]) (~~~ 0 ^^^ ~~~ 0) (~~~ 0)
  rw [← h1] at h2
  have e : (~~~ (0 : BitVec 32)) ^^^ ~~~ 0 ^^^ ~~~ 0 = ~~~ 0 := by decide
  rw [e] at h2
  rw [← h2]
  have e2 : ∀ x y z : BitVec 32, ~~~ (x ^^^ y ^^^ z) = ~~~ x ^^^ ~~~ y ^^^ ~~~ z := by
    intro x y z
    apply BitVec.eq_of_getLsbD_eq
    intro i hi
    simp only [BitVec.getLsbD_xor, BitVec.getLsbD_not, hi]
    cases x.getLsbD i <;> cases y.getLsbD i <;> cases z.getLsbD i <;> rfl
  exact e2 _ _ _

/-! four bytes side by side -/
theorem ofByte_high (b : UInt8) (n : Nat) (h : n + 8 ≤ 32) : iter bit n (ofByte b <<< n) = ofByte b := by
  rw [iter_high]
  · apply BitVec.eq_of_getLsbD_eq
    intro i hi
    simp only [BitVec.getLsbD_ushiftRight, BitVec.getLsbD_shiftLeft]
    by_cases h8 : i < 8
    · have : n + i < 32 := by omega
      simp [this]
    · have hz : (ofByte b).getLsbD i = false := by
        simp only [ofByte, BitVec.getLsbD, BitVec.toNat_ofNat]
        have hb := b.toNat_lt
        rw [Nat.mod_eq_of_lt (by omega)]
        apply Nat.testBit_lt_two_pow
        exact Nat.lt_of_lt_of_le (by omega : b.toNat < 2 ^ 8) (Nat.pow_le_pow_right (by omega) (by omega))
      rw [hz]; simp [hz]
  · intro i hi
    simp [BitVec.getLsbD_shiftLeft, hi]

theorem byte_iter (n : Nat) (x : BitVec 32) (b : UInt8) (h : n + 8 ≤ 32) : byte (iter bit n x) b = iter bit (n + 8) (x ^^^ (ofByte b <<< n)) := by
  rw [byte_eq, iter_add, iter_xor n, ofByte_high b n h]

theorem run_zero (n : Nat) : run 0 (List.replicate n 0) = 0 := by
  induction n with
  | zero => rfl
  | succ n ih =>
    rw [List.replicate_succ, run_cons]
    have : byte 0 0 = 0 := by decide
    rw [this]; exact ih

/-- the bytes of a number, the lowest first -/
def low (n : BitVec 32) : List UInt8 := [b8 n.toNat, b8 (n.toNat / 256), b8 (n.toNat / 65536), b8 (n.toNat / 16777216)]

theorem ofByte_b8 (n : Nat) : ofByte (b8 n) = BitVec.ofNat 32 (n % 256) := by
  simp [ofByte, b8]

theorem low_join (n : BitVec 32) : (((ofByte (b8 n.toNat)) ^^^ (ofByte (b8 (n.toNat / 256)) <<< 8)) ^^^ (ofByte (b8 (n.toNat / 65536)) <<< 16)) ^^^ (ofByte (b8 (n.toNat / 16777216)) <<< 24) = n := by
  have e0 : ofByte (b8 n.toNat) = n &&& 255#32 := by
    rw [ofByte_b8]; apply BitVec.eq_of_toNat_eq
    have := n.isLt
    rw [BitVec.toNat_ofNat, BitVec.toNat_and, Nat.mod_eq_of_lt (by omega)]
    exact (Nat.and_two_pow_sub_one_eq_mod n.toNat 8).symm
  have e1 : ∀ k, ofByte (b8 (n.toNat / 2 ^ k)) = (n >>> k) &&& 255#32 := by
    intro k
    rw [ofByte_b8]; apply BitVec.eq_of_toNat_eq
    have := n.isLt
    rw [BitVec.toNat_ofNat, BitVec.toNat_and, BitVec.toNat_ushiftRight, Nat.mod_eq_of_lt (by omega), Nat.shiftRight_eq_div_pow]
    exact (Nat.and_two_pow_sub_one_eq_mod _ 8).symm
  rw [e0, show n.toNat / 256 = n.toNat / 2 ^ 8 from rfl, show n.toNat / 65536 = n.toNat / 2 ^ 16 from rfl, show n.toNat / 16777216 = n.toNat / 2 ^ 24 from rfl, e1, e1, e1]
  apply BitVec.eq_of_getLsbD_eq
  intro i hi
  have h255 : ∀ j, (255#32).getLsbD j = decide (j < 8) := by
    intro j
    have : (255#32).getLsbD j = (255).testBit j := rfl
    rw [this, show (255 : Nat) = 2 ^ 8 - 1 from rfl, Nat.testBit_two_pow_sub_one]
  simp only [BitVec.getLsbD_xor, BitVec.getLsbD_and, BitVec.getLsbD_shiftLeft, BitVec.getLsbD_ushiftRight, h255, hi, decide_true, Bool.true_and]
  by_cases h8 : i < 8
  · simp [h8, show i < 16 from by omega, show i < 24 from by omega]
  · by_cases h16 : i < 16
    · simp [h8, h16, show i < 24 from by omega, show i - 8 < 8 from by omega, show 8 + (i - 8) = i from by omega]
    · by_cases h24 : i < 24
      · simp [h8, h16, h24, show ¬ i - 8 < 8 from by omega, show i - 16 < 8 from by omega, show 16 + (i - 16) = i from by omega]
      · simp [h8, h16, h24, show ¬ i - 8 < 8 from by omega, show ¬ i - 16 < 8 from by omega, show i - 24 < 8 from by omega, show 24 + (i - 24) = i from by omega]

theorem run_low (n : BitVec 32) : run 0 (low n) = iter bit 32 n := by
  have h0 : byte 0 (b8 n.toNat) = iter bit 8 (ofByte (b8 n.toNat)) := by rw [byte_eq]; simp
  simp only [low, run, List.foldl]
  rw [h0, byte_iter 8 _ _ (by omega), byte_iter 16 _ _ (by omega), byte_iter 24 _ _ (by omega), low_join]

/-- a row of noughts but for four bytes -/
def spot (len at_ : Nat) (n : BitVec 32) : List UInt8 := List.replicate at_ 0 ++ (low n ++ List.replicate (len - at_ - 4) 0)
theorem run_spot (len at_ : Nat) (n : BitVec 32) (hn : n ≠ 0) : run 0 (spot len at_ n) ≠ 0 := by
  intro h
  unfold spot at h
  rw [run_append, run_zero, run_append] at h
  have h1 : run (run 0 (low n)) (List.replicate (len - at_ - 4) 0) = run 0 (List.replicate (len - at_ - 4) 0) := by rw [h, run_zero]
  have h2 := run_inj _ h1
  rw [run_low] at h2
  have h3 : iter bit 32 n = iter bit 32 0 := by rw [h2]; decide
  exact hn (iter_inj 32 h3)

/-- bytes at four places, turned one behind the other -/
def turnTo (s : List UInt8) (at_ : Nat) (n : BitVec 32) : Nat → List UInt8
  | 0 => s
  | k + 1 => (turnTo s at_ n k).set (at_ + k) ((turnTo s at_ n k).getD (at_ + k) 0 ^^^ b8 (n.toNat / 2 ^ (8 * k)))

theorem turnTo_length (s : List UInt8) (at_ : Nat) (n : BitVec 32) (k : Nat) : (turnTo s at_ n k).length = s.length := by
  induction k with
  | zero => rfl
  | succ k ih => simp [turnTo, ih]

theorem turnTo_get (s : List UInt8) (at_ : Nat) (n : BitVec 32) (k i : Nat) (h : at_ + k ≤ s.length) (hi : i < s.length) :
    (turnTo s at_ n k).getD i 0 = if at_ ≤ i ∧ i < at_ + k then s.getD i 0 ^^^ b8 (n.toNat / 2 ^ (8 * (i - at_))) else s.getD i 0 := by
  induction k with
  | zero => rw [if_neg (by omega)]; rfl
  | succ k ih =>
    have ih := ih (by omega)
    simp only [turnTo]
    by_cases e : i = at_ + k
    · subst e
      rw [if_pos (by omega), show at_ + k - at_ = k from by omega]
      rw [if_neg (by omega)] at ih
      rw [ih]
      simp [List.getD_eq_getElem?_getD, turnTo_length, show at_ + k < s.length from by omega]
    · have : ((turnTo s at_ n k).set (at_ + k) ((turnTo s at_ n k).getD (at_ + k) 0 ^^^ b8 (n.toNat / 2 ^ (8 * k)))).getD i 0 = (turnTo s at_ n k).getD i 0 := by
        simp [List.getD_eq_getElem?_getD, Ne.symm e]
      rw [this, ih]
      by_cases c : at_ ≤ i ∧ i < at_ + k
      · rw [if_pos c, if_pos (by omega)]
      · rw [if_neg c, if_neg (by omega)]

theorem getD_at {α : Type} (l : List α) (d : α) {i : Nat} (h : i < l.length) : l.getD i d = l[i] := by
  rw [List.getD_eq_getElem?_getD, List.getElem?_eq_getElem h]; rfl

theorem turned_eq (s : List UInt8) (at_ : Nat) (n : BitVec 32) (h : at_ + 4 ≤ s.length) : turnTo s at_ n 4 = List.zipWith (· ^^^ ·) s (spot s.length at_ n) := by
  have hsl : (spot s.length at_ n).length = s.length := by simp [spot, low]; omega
  apply List.ext_getElem
  · rw [turnTo_length, List.length_zipWith, hsl, Nat.min_self]
  · intro i h1 h2
    have hi : i < s.length := by rwa [turnTo_length] at h1
    have e := turnTo_get s at_ n 4 i h hi
    rw [getD_at _ _ h1] at e
    rw [e, List.getElem_zipWith]
    have hspot : (spot s.length at_ n)[i]'(by omega) = if at_ ≤ i ∧ i < at_ + 4 then b8 (n.toNat / 2 ^ (8 * (i - at_))) else 0 := by
      unfold spot
      by_cases h1 : i < at_
      · rw [List.getElem_append_left (by simpa using h1), if_neg (by omega)]; simp
      · rw [List.getElem_append_right (by simp; omega)]
        by_cases h2 : i < at_ + 4
        · rw [List.getElem_append_left (by simp [low]; omega), if_pos (by omega)]
          simp only [List.length_replicate]
          obtain ⟨k, rfl⟩ : ∃ k, i = at_ + k := ⟨i - at_, by omega⟩
          simp only [show at_ + k - at_ = k from by omega]
          match k, (show k < 4 by omega) with
          | 0, _ => simp [low]
          | 1, _ => simp [low]
          | 2, _ => simp [low]
          | 3, _ => simp [low]
        · rw [List.getElem_append_right (by simp [low]; omega), if_neg (by omega)]; simp
    rw [hspot, getD_at _ _ hi]
    by_cases c : at_ ≤ i ∧ i < at_ + 4
    · rw [if_pos c, if_pos c]
    · rw [if_neg c, if_neg c]; simp

theorem sum_turned (s : List UInt8) (at_ : Nat) (n : BitVec 32) (h : at_ + 4 ≤ s.length) (hn : n ≠ 0) : sum (turnTo s at_ n 4) ≠ sum s := by
  intro e
  rw [turned_eq s at_ n h] at e
  unfold sum more at e
  have hsl : s.length = (spot s.length at_ n).length := by simp [spot, low]; omega
  have h1 := run_xor s (spot s.length at_ n) hsl (~~~ 0) 0
  rw [show (~~~ (0 : BitVec 32)) ^^^ 0 = ~~~ 0 from by decide] at h1
  rw [← h1] at e
  have e2 := congrArg (~~~ ·) e
  simp only [BitVec.not_not] at e2
  have e3 := congrArg (run (~~~ 0) s ^^^ ·) e2
  simp only [← BitVec.xor_assoc, BitVec.xor_self, BitVec.zero_xor] at e3
  exact run_spot s.length at_ n hn e3

/-! tails -/
theorem tail_length (s : BitVec 32) : (tail s).length = 4 := rfl
theorem b8_eq {a b : Nat} (h : b8 a = b8 b) : a % 256 = b % 256 := by
  have := congrArg UInt8.toNat h
  simpa [b8] using this
theorem tail_inj {s t : BitVec 32} (h : tail s = tail t) : s = t := by
  simp only [tail, List.cons.injEq, and_true] at h
  obtain ⟨h0, h1, h2, h3⟩ := h
  have h0 := b8_eq h0; have h1 := b8_eq h1; have h2 := b8_eq h2; have h3 := b8_eq h3
  apply BitVec.eq_of_toNat_eq
  have := s.isLt; have := t.isLt
  omega

theorem isGood_tail (l : List UInt8) (t : BitVec 32) : isGood (l ++ tail t) = decide (t = sum l) := by
  unfold isGood
  have hl : (l ++ tail t).length = l.length + 4 := by simp [tail]
  rw [hl, show l.length + 4 - 4 = l.length from by omega, List.drop_left, List.take_left]
  rw [Bool.eq_iff_iff]
  simp only [Bool.and_eq_true, decide_eq_true_eq, beq_iff_eq]
  constructor
  · exact fun h => tail_inj h.2
  · exact fun h => ⟨by omega, by rw [h]⟩
theorem good_tail (l : List UInt8) : good (l ++ tail (sum l)) = l := by
  unfold good
  rw [isGood_tail]
  have hl : (l ++ tail (sum l)).length = l.length + 4 := by simp [tail]
  simp [hl]
theorem good_back (l : List UInt8) (h : isGood l = true) : good l ++ tail (sum (good l)) = l := by
  have h' := h
  unfold isGood at h'
  simp only [Bool.and_eq_true, beq_iff_eq] at h'
  unfold good
  rw [if_pos h, ← h'.2, List.take_append_drop]
theorem good_not (l : List UInt8) (h : isGood l = false) : good l = [] := by unfold good; rw [if_neg (by simp [h])]

end Crc
/- Layer 5: crc.More returns the sum of the bytes behind a sum, and leaves the world alone. Conditions: the table lies in block 0. -/
namespace Go.Proofs.YtihhflajkohibaaGreatDoor
set_option linter.unusedSimpArgs false
set_option linter.unusedVariables false
set_option maxRecDepth 100000
open Go.RowKit

/-- a sum as an integer; nothing looks into it -/
def val (c : BitVec 32) : Int := (c.toNat : Int)
def lowN (c : BitVec 32) : Nat := (c &&& 15#32).toNat
def turn (c : BitVec 32) (b : UInt8) : BitVec 32 := c ^^^ Crc.ofByte b
theorem bv_xor (a b : BitVec 32) : bits .xor .u32 (val a) (val b) = val (a ^^^ b) := by
  unfold val
  rw [u32_xor_nat _ _ a.isLt b.isLt, BitVec.toNat_xor]
theorem bv_not (a : BitVec 32) : bits .xor .u32 IntKind.u32.max (val a) = val (~~~ a) := by
  rw [show IntKind.u32.max = val (~~~ 0) from by decide, bv_xor]
  congr 1
theorem bv_low (a : BitVec 32) : bits .and .u32 (val a) 15 = (lowN a : Int) := by
  unfold val lowN
  rw [show (15 : Int) = (((15#32).toNat : Nat) : Int) from by decide, u32_and_nat _ _ a.isLt (15#32).isLt, BitVec.toNat_and]
theorem bv_nib (a : BitVec 32) : bits .xor .u32 (val a / (16 : Int)) (val (Crc.tab (lowN a))) = val (Crc.nib a) := by
  have e : (val a / (16 : Int) : Int) = val (a >>> 4) := by
    unfold val
    rw [BitVec.toNat_ushiftRight, Nat.shiftRight_eq_div_pow]; omega
  rw [e, bv_xor]; rfl
theorem bv_turn (a : BitVec 32) (b : UInt8) : bits .xor .u32 (val a) ((b.toNat : Int) % 4294967296) = val (turn a b) := by
  have := b.toNat_lt
  have e : (b.toNat : Int) % 4294967296 = val (Crc.ofByte b) := by
    simp only [val, Crc.ofByte, BitVec.toNat_ofNat]; omega
  rw [e, bv_xor]; rfl
theorem low_lt (a : BitVec 32) : lowN a < 16 := by
  unfold lowN
  rw [BitVec.toNat_and]
  exact Nat.lt_of_le_of_lt Nat.and_le_right (by decide)
theorem low_lt' (a : BitVec 32) : ((lowN a : Nat) : Int) < 16 := by have := low_lt a; omega
theorem run_snoc (c : BitVec 32) (s : ByteArray) (k : Nat) (h : k < s.size) : Crc.run c (s.data.toList.take (k + 1)) = Crc.byte (Crc.run c (s.data.toList.take k)) s[k] := by
  have e : s.data.toList.take (k + 1) = s.data.toList.take k ++ [s[k]] := by
    rw [List.take_succ_eq_append_getElem (by simpa using h)]; rfl
  rw [e, Crc.run_append]; rfl
theorem ret_int {k : IntKind} {a b : Int} (h : a = b) : Ending.returned (.int k a) = .returned (.int k b) := by rw [h]

/-- the table lies -/
def TabAt (w : World) : Prop := ∀ i, i < 16 → w.cell? ⟨1, i, none⟩ = some (.int .u32 (val (Crc.tab i)))

section
attribute [local go_sem] bv_not bv_low bv_nib bv_turn low_lt low_lt'
set_option maxHeartbeats 400000 in
theorem more_any (sum : BitVec 32) (s : ByteArray) (w : World) (hs : s.size ≤ maxLen) (ht : TabAt w) :
    Calls Tryz.prog 82 #[.int .u32 (val sum), .string s] w fun e w' => e = .returned (.int .u32 (val (Crc.more sum s.data.toList))) ∧ w = w' := by
  unfold maxLen at hs
  unfold TabAt at ht
  go_enter Tryz.func82, Tryz.ntmps82
  go_wp2
  go_loop [5, 11] (fun c i => ∃ k : Nat, k ≤ s.size ∧ i = .int .i64 k ∧ c = .int .u32 (val (Crc.run (~~~ sum) (s.data.toList.take k)))) (fun _ i => s.size - (intOf i).toNat)
  case atStart => exact ⟨0, Nat.zero_le _, rfl, rfl⟩
  case round =>
    obtain ⟨k, hk, rfl, rfl⟩ := hrel
    by_cases hlt : k < s.size
    · have hsn := Lib.hid (run_snoc (~~~ sum) s k hlt)
      go_wp2
      go_round
      case rel => exact ⟨k + 1, by omega, by go_num, by rw [hsn.out]; rfl⟩
      case measure => simp [intOf]; omega
    · go_wp2
      go_ret
      exact ⟨ret_int (by rw [List.take_of_length_le (by simp; omega)]; rfl), rfl⟩
end
end Go.Proofs.YtihhflajkohibaaGreatDoor
/- Layer 5: crc.Sum, crc.Tail and crc.Good return the plain functions of CrcPlain. Conditions: the table lies in block 0. -/
namespace Go.Proofs.YtihhflajkohibaaGreatDoor
set_option linter.unusedSimpArgs false
set_option linter.unusedVariables false
set_option maxRecDepth 100000
open Go.RowKit

set_option maxHeartbeats 400000 in
theorem sum_any (s : ByteArray) (w : World) (hs : s.size ≤ maxLen) (ht : TabAt w) :
    Calls Tryz.prog 65 #[.string s] w fun e w' => e = .returned (.int .u32 (val (Crc.sum s.data.toList))) ∧ w = w' := by
  have H0 := more_any 0 s w hs ht
  rw [show val 0 = 0 from rfl] at H0
  have H := Lib.hid H0
  clear H0
  go_enter Tryz.func65, Tryz.ntmps65
  go_wp2_with (go_at_call 82; refine (H.out).mono ?_; rintro e w' ⟨rfl, rfl⟩)
  go_ret
  exact ⟨rfl, rfl⟩

theorem conv_new (w : World) (ns : List Int) (c : Nat) :
    (convert 118 9 (.slice (some ⟨w.heap.size, 0, none⟩) ns.length c)).run Tryz.prog (w.alloc (.cells (ns.map (Value.int .u8)).toArray 5)) =
      .ok (.string (strOfNums ns)) (w.alloc (.cells (ns.map (Value.int .u8)).toArray 5)) := by
  refine run_convert_bytes_arg _ 118 5 Tryz.underlying118 Tryz.underlying5 w.heap.size 0 ns.length c ns rfl (fun i hi => ?_) 9 Tryz.underlying9
  have h := cell_of_row (w.alloc (.cells (ns.map (Value.int .u8)).toArray 5)) w.heap.size (0 + i) _ 5 (0, 0) (heap_alloc_new w _)
  rw [h]
  simp [List.getD_eq_getElem?_getD, hi]
theorem conv4 (w : World) (a b c d : Int) :
    (convert 118 9 (.slice (some ⟨w.heap.size, 0, none⟩) 4 4)).run Tryz.prog (w.alloc (.cells #[.int .u8 a, .int .u8 b, .int .u8 c, .int .u8 d] 5)) =
      .ok (.string (strOfNums [a, b, c, d])) (w.alloc (.cells #[.int .u8 a, .int .u8 b, .int .u8 c, .int .u8 d] 5)) :=
  conv_new w [a, b, c, d] 4
theorem tail_nums (c : BitVec 32) : strOfNums [val c / 16777216 % 256, val c / 65536 % 256, val c / 256 % 256, val c % 256] = ⟨(Crc.tail c).toArray⟩ := by
  have h : ∀ n : Nat, UInt8.ofNat (((n : Nat) : Int) % 256).toNat = Crc.b8 n := by
    intro n
    rw [show ((n : Int) % 256).toNat = n % 256 from by omega]
    apply UInt8.toNat_inj.1
    simp [Crc.b8]
  have e : ∀ k : Nat, (c.toNat : Int) / (k : Int) = ((c.toNat / k : Nat) : Int) := fun k => by simp
  unfold strOfNums Crc.tail val
  simp only [List.map_cons, List.map_nil]
  rw [show (16777216 : Int) = ((16777216 : Nat) : Int) from rfl, show (65536 : Int) = ((65536 : Nat) : Int) from rfl, e, e,
    show (c.toNat : Int) / 256 = ((c.toNat / 256 : Nat) : Int) from by simp, h, h, h, h]

section
attribute [local go_sem] conv4
set_option maxHeartbeats 400000 in
theorem tail_any (sum : BitVec 32) (w : World) :
    Calls Tryz.prog 64 #[.int .u32 (val sum)] w fun e w' => e = .returned (.string ⟨(Crc.tail sum).toArray⟩) ∧ Below w.heap.size w w' := by
  go_enter Tryz.func64, Tryz.ntmps64
  go_wp2
  go_ret
  exact ⟨by rw [tail_nums]; rfl, (Below.refl _ _).alloc (Nat.le_refl _) _⟩
end
theorem TabAt.below {w w' : World} (h : TabAt w) {B : Nat} (hb : Below B w w') (hB : 1 < B) : TabAt w' := fun i hi => by
  rw [hb.cell (p := ⟨1, i, none⟩) hB]; exact h i hi
theorem TabAt.pos {w : World} (h : TabAt w) : 1 < w.heap.size := by
  rcases Nat.lt_or_ge 1 w.heap.size with h0 | h0
  · exact h0
  · have := h 0 (by omega)
    have e : w.heap[1]? = none := Array.getElem?_eq_none h0
    simp [World.cell?, e] at this
theorem ret_tup {k : List UInt8} {a : ByteArray} {x y : Bool} (h : a = ⟨k.toArray⟩) (hb : x = y) : Ending.returned (.tuple #[.string a, .bool x]) = .returned (.tuple #[.string ⟨k.toArray⟩, .bool y]) := by rw [h, hb]
theorem good_test (s : ByteArray) (m : Nat) (h : s.size = m + 4) :
    ((s.extract m s.size).toList == Crc.tail (Crc.sum (List.take m s.data.toList))) = Crc.isGood s.data.toList := by
  have hl : s.data.toList.length = m + 4 := (Lib.size_eq s).symm.trans h
  unfold Crc.isGood
  rw [Lib.extract_toList, hl, show m + 4 - 4 = m from by omega, h, List.take_of_length_le (by simp [hl])]
  simp
set_option maxHeartbeats 400000 in
theorem good_any (s : ByteArray) (w : World) (hs : s.size ≤ maxLen) (ht : TabAt w) :
    Calls Tryz.prog 87 #[.string s] w fun e w' => e = .returned (.tuple #[.string ⟨(Crc.good s.data.toList).toArray⟩, .bool (Crc.isGood s.data.toList)]) ∧ Below w.heap.size w w' := by
  unfold maxLen at hs
  by_cases h4 : 4 ≤ s.size
  · obtain ⟨m, hm⟩ : ∃ m, s.size = m + 4 := ⟨s.size - 4, by omega⟩
    have he : (s.size : Int) - 4 = (m : Int) := by omega
    have h1 : (0 : Int) ≤ (m : Int) := by omega
    have h2 : (m : Int) ≤ (s.size : Int) := by omega
    have h2' : m ≤ s.size := by omega
    have h3 : min m s.size ≤ maxLen := by unfold maxLen; omega
    have hd : decide ((m : Int) < 0) = false := by simp
    have hg := good_test s m hm
    have hx : s.extract 0 m = ⟨(s.data.toList.take m).toArray⟩ := by rw [Lib.extract_eq]; simp
    have hgd : Crc.good s.data.toList = if Crc.isGood s.data.toList then s.data.toList.take m else [] := by
      unfold Crc.good
      rw [show s.data.toList.length - 4 = m from by have : s.data.toList.length = m + 4 := (Lib.size_eq s).symm.trans hm
                                                    omega]
    have HX := Lib.hid hx
    have HG := Lib.hid hgd
    clear hm h4 hx hgd
    cases hgood : Crc.isGood s.data.toList
    all_goals
      rw [hgood] at hg
      have HGD := Lib.hid hgood
      clear hgood
      go_enter Tryz.func87, Tryz.ntmps87
      go_wp2_with fail
      go_region_held3 (fun _ => True) (trivial) (first | (go_at_call 65; refine (sum_any _ _ (by simpa using h3) (by exact ht)).mono ?_; rintro e w' ⟨rfl, rfl⟩) | (go_at_call 64; refine (tail_any _ _).mono ?_; rintro e w' ⟨rfl, hb⟩))
      go_wp2
      go_ret2
      refine ⟨ret_tup (by rw [HG.out, HGD.out]; first | rfl | exact HX.out) rfl, of_drew hb⟩
  · have hd : decide ((s.size : Int) - 4 < 0) = true := by simp; omega
    have hgood : Crc.isGood s.data.toList = false := by
      unfold Crc.isGood
      have : s.data.toList.length = s.size := (Lib.size_eq s).symm
      rw [this]; simp; intro h; omega
    have HGD := Lib.hid hgood
    clear hgood
    go_enter Tryz.func87, Tryz.ntmps87
    go_wp2_with fail
    go_quiet (fail)
    go_wp2
    go_ret2
    exact ⟨ret_tup (by rw [Crc.good_not _ HGD.out]) HGD.out.symm, below_drewN (Below.refl _ _) _⟩
end Go.Proofs.YtihhflajkohibaaGreatDoor
/- Layer 5: the reference More returns the same sum, bit by bit. No conditions. -/
namespace Go.Proofs.YtihhflajkohibaaGreatDoor
set_option linter.unusedSimpArgs false
set_option linter.unusedVariables false
set_option maxRecDepth 100000
open Go.RowKit

theorem bv_full (a : BitVec 32) : bits .xor .u32 (val a) 4294967295 = val (~~~ a) := by
  rw [show (4294967295 : Int) = val (~~~ 0) from by decide, bv_xor]
  congr 1
  rw [BitVec.xor_comm]
  rfl
theorem bv_turn' (a : BitVec 32) (b : UInt8) : bits .xor .u32 (val a) (b.toNat : Int) = val (turn a b) := by
  have := b.toNat_lt
  have e : (b.toNat : Int) = val (Crc.ofByte b) := by
    simp only [val, Crc.ofByte, BitVec.toNat_ofNat]; omega
  rw [e, bv_xor]; rfl
theorem val_range (c : BitVec 32) : 0 ≤ val c ∧ val c ≤ 4294967295 := by
  have := c.isLt
  unfold val; omega
theorem val_rem (c : BitVec 32) : (val c % (2 : Int) == 1) = c.getLsbD 0 := by
  have h : c.getLsbD 0 = decide (c.toNat % 2 = 1) := by simp [BitVec.getLsbD]
  rw [h, Bool.eq_iff_iff]
  simp only [beq_iff_eq, decide_eq_true_eq, val]; omega
theorem val_half (c : BitVec 32) : val c / (2 : Int) = val (c >>> 1) := by
  unfold val
  rw [BitVec.toNat_ushiftRight, Nat.shiftRight_eq_div_pow]; omega
theorem bit_no (c : BitVec 32) (h : c.getLsbD 0 = false) : val c / (2 : Int) = val (Crc.bit c) := by
  rw [val_half]; unfold Crc.bit; rw [h]; simp
theorem bit_yes (c : BitVec 32) (h : c.getLsbD 0 = true) : bits .xor .u32 (val c / (2 : Int)) 3988292384 = val (Crc.bit c) := by
  rw [val_half, show (3988292384 : Int) = val Crc.poly from by decide, bv_xor]; unfold Crc.bit; rw [h]; rfl
theorem iter_snoc (f : BitVec 32 → BitVec 32) (n : Nat) (c : BitVec 32) : Crc.iter f (n + 1) c = f (Crc.iter f n c) := by
  rw [Crc.iter_add]; rfl

section
attribute [local go_sem] bv_full bv_turn bv_turn'
set_option maxHeartbeats 1000000 in
theorem refMore_any (sum : BitVec 32) (s : ByteArray) (w : World) (hs : s.size ≤ maxLen) :
    Calls Tryz.prog 72 #[.int .u32 (val sum), .string s] w fun e w' => e = .returned (.int .u32 (val (Crc.more sum s.data.toList))) ∧ w = w' := by
  unfold maxLen at hs
  go_enter Tryz.func72, Tryz.ntmps72
  go_wp2
  go_loop [5, 6] (fun c i => ∃ k : Nat, k ≤ s.size ∧ i = .int .i64 k ∧ c = .int .u32 (val (Crc.run (~~~ sum) (s.data.toList.take k)))) (fun _ i => s.size - (intOf i).toNat)
  case atStart => exact ⟨0, Nat.zero_le _, rfl, rfl⟩
  case round =>
    obtain ⟨k, hk, rfl, rfl⟩ := hrel
    by_cases hlt : k < s.size
    · have hsn := Lib.hid (run_snoc (~~~ sum) s k hlt)
      generalize Crc.run (~~~ sum) (s.data.toList.take k) = C at *
      go_wp2
      go_loop [5, 7] (fun c i => ∃ j : Nat, j ≤ 8 ∧ i = .int .i64 j ∧ c = .int .u32 (val (Crc.iter Crc.bit j (turn C s[k])))) (fun _ i => 8 - (intOf i).toNat)
      case atStart => exact ⟨0, by omega, rfl, rfl⟩
      case round =>
        obtain ⟨j, hj, rfl, rfl⟩ := hrel
        by_cases hj8 : j < 8
        · have hit := Lib.hid (iter_snoc Crc.bit j (turn C s[k]))
          generalize Crc.iter Crc.bit j (turn C s[k]) = D at *
          have hv := val_range D
          have hv0 : 0 ≤ val D := hv.1
          have hv1 : val D ≤ 4294967295 := hv.2
          clear hv
          cases hb : D.getLsbD 0
          · have h1 : (val D % (2 : Int) == 1) = false := by rw [val_rem]; exact hb
            have h2 := bit_no D hb
            clear hb
            go_wp2
            go_round
            case rel => exact ⟨j + 1, by omega, by go_num, by rw [hit.out, h2]⟩
            case measure => simp [intOf]; omega
          · have h1 : (val D % (2 : Int) == 1) = true := by rw [val_rem]; exact hb
            have h2 := bit_yes D hb
            clear hb
            go_wp2
            go_round
            case rel => exact ⟨j + 1, by omega, by go_num, by rw [hit.out]⟩
            case measure => simp [intOf]; omega
        · obtain rfl : j = 8 := by omega
          go_wp2
          go_round
          case rel => exact ⟨k + 1, by omega, by go_num, by rw [hsn.out, Crc.byte_eq]; rfl⟩
          case measure => simp [intOf]; omega
    · go_wp2
      go_ret
      exact ⟨ret_int (by rw [List.take_of_length_le (by simp; omega)]; rfl), rfl⟩
end
end Go.Proofs.YtihhflajkohibaaGreatDoor
/- Layer 5: the reference Tail returns the four bytes of a sum. No conditions. -/
namespace Go.Proofs.YtihhflajkohibaaGreatDoor
set_option linter.unusedSimpArgs false
set_option linter.unusedVariables false
set_option maxRecDepth 100000
open Go.RowKit

def quo (c : BitVec 32) (j : Nat) : Int := ((c.toNat / 256 ^ j : Nat) : Int)
def tl (c : BitVec 32) : Nat → List UInt8
  | 0 => []
  | j + 1 => Crc.b8 (c.toNat / 256 ^ j) :: tl c j
theorem tl_four (c : BitVec 32) : tl c 4 = Crc.tail c := by simp [tl, Crc.tail]
theorem quo_zero (c : BitVec 32) : val c = quo c 0 := by simp [quo, val]
theorem quo_succ (c : BitVec 32) (j : Nat) : quo c j / 256 = quo c (j + 1) := by
  unfold quo
  rw [Nat.pow_succ, ← Nat.div_div_eq_div_mul]; omega
theorem quo_range (c : BitVec 32) (j : Nat) : 0 ≤ quo c j ∧ quo c j ≤ 4294967295 := by
  have := c.isLt
  have h : c.toNat / 256 ^ j ≤ c.toNat := Nat.div_le_self ..
  refine ⟨by unfold quo; exact Int.natCast_nonneg _, ?_⟩
  unfold quo
  generalize c.toNat / 256 ^ j = x at *
  omega
theorem tl_length (c : BitVec 32) (j : Nat) : (tl c j).length = j := by induction j with
  | zero => rfl
  | succ j ih => simp [tl, ih]
theorem tl_size (c : BitVec 32) (j : Nat) (x : Int) (h : j ≤ 4) : (strOfNums [x]).size + (tl c j).length ≤ 5 := by
  rw [strOfNums_size, tl_length]; simp; omega
theorem quo_byte (c : BitVec 32) (j : Nat) : strOfNums [quo c j % 256] = ⟨[Crc.b8 (c.toNat / 256 ^ j)].toArray⟩ := by
  unfold strOfNums quo
  congr 2
  simp only [List.map_cons, List.map_nil]
  rw [show (((c.toNat / 256 ^ j : Nat) : Int) % 256).toNat = (c.toNat / 256 ^ j) % 256 from by omega]
  congr 1
  apply UInt8.toNat_inj.1
  simp [Crc.b8]
theorem tl_step (c : BitVec 32) (j : Nat) : strOfNums [quo c j % 256] ++ ⟨(tl c j).toArray⟩ = ⟨(tl c (j + 1)).toArray⟩ := by
  rw [quo_byte]; rfl
theorem conv1 (w : World) (a : Int) :
    (convert 118 9 (.slice (some ⟨w.heap.size, 0, none⟩) 1 1)).run Tryz.prog (w.alloc (.cells #[.int .u8 a] 5)) =
      .ok (.string (strOfNums [a])) (w.alloc (.cells #[.int .u8 a] 5)) :=
  conv_new w [a] 1

section
attribute [local go_sem] conv1
set_option maxHeartbeats 1000000 in
theorem refTail_any (sum : BitVec 32) (w : World) :
    Calls Tryz.prog 71 #[.int .u32 (val sum)] w fun e w' => e = .returned (.string ⟨(Crc.tail sum).toArray⟩) ∧ Below w.heap.size w w' := by
  rw [quo_zero]
  go_enter Tryz.func71, Tryz.ntmps71
  go_wp2
  go_loopw [0, 3, 4] (fun n out i wr => ∃ j : Nat, j ≤ 4 ∧ i = .int .i64 j ∧ n = .int .u32 (quo sum j) ∧ out = .string ⟨(tl sum j).toArray⟩ ∧ Below w.heap.size w wr) (fun _ _ i _ => 4 - (intOf i).toNat)
  case atStart => exact ⟨0, by omega, rfl, rfl, rfl, Below.refl _ _⟩
  case round =>
    obtain ⟨j, hj, rfl, rfl, rfl, hb⟩ := hrel
    have hr := quo_range sum j
    have hq0 := hr.1
    have hq1 := hr.2
    clear hr
    by_cases hlt : j < 4
    · have hsz := tl_size sum j (quo sum j % 256) hj
      go_wp2
      go_roundw
      case rel => exact ⟨j + 1, by omega, by go_num, by rw [quo_succ], by rw [tl_step], hb.alloc hb.size _⟩
      case measure => simp [intOf]; omega
    · obtain rfl : j = 4 := by omega
      go_wp2
      go_ret
      exact ⟨by rw [← tl_four]; rfl, hb⟩
end
end Go.Proofs.YtihhflajkohibaaGreatDoor
