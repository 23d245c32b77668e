/- The plain law of layer 5: the sum of bytes as a function on lists of bytes; no program in sight. -/
namespace Crc
set_option linter.unusedSimpArgs false
set_option linter.unusedVariables false
set_option maxRecDepth 100000

/-- what becomes of four bits -/
def tabL : List Nat := [0, 498536548, 997073096, 651767980, 1994146192, 1802195444, 1303535960, 1342533948, 3988292384, 4027552580, 3604390888, 3412177804, 2607071920, 2262029012, 2685067896, 3183342108]
def tab (n : Nat) : BitVec 32 := BitVec.ofNat 32 (tabL.getD n 0)
def poly : BitVec 32 := 3988292384#32
def bit (c : BitVec 32) : BitVec 32 := (c >>> 1) ^^^ (if c.getLsbD 0 then poly else 0)
def nib (c : BitVec 32) : BitVec 32 := (c >>> 4) ^^^ tab (c &&& 15#32).toNat
def ofByte (b : UInt8) : BitVec 32 := BitVec.ofNat 32 b.toNat
def byte (c : BitVec 32) (b : UInt8) : BitVec 32 := nib (nib (c ^^^ ofByte b))
def run (c : BitVec 32) (l : List UInt8) : BitVec 32 := l.foldl byte c
def more (s : BitVec 32) (l : List UInt8) : BitVec 32 := ~~~ (run (~~~ s) l)
def sum (l : List UInt8) : BitVec 32 := more 0 l
def b8 (n : Nat) : UInt8 := UInt8.ofNat n
def tail (s : BitVec 32) : List UInt8 := [b8 (s.toNat / 16777216), b8 (s.toNat / 65536), b8 (s.toNat / 256), b8 s.toNat]
def isGood (l : List UInt8) : Bool := decide (4 ≤ l.length) && (l.drop (l.length - 4) == tail (sum (l.take (l.length - 4))))
def good (l : List UInt8) : List UInt8 := if isGood l then l.take (l.length - 4) else []

/-! the single bit -/
theorem xor_comm4 (a b c d : BitVec 32) : (a ^^^ b) ^^^ (c ^^^ d) = (a ^^^ c) ^^^ (b ^^^ d) := by
  rw [BitVec.xor_assoc, BitVec.xor_assoc, ← BitVec.xor_assoc b c d, BitVec.xor_comm b c, BitVec.xor_assoc c b d]

theorem bit_xor (a b : BitVec 32) : bit (a ^^^ b) = bit a ^^^ bit b := by
  unfold bit
  rw [xor_comm4]
  congr 1
  · exact BitVec.ushiftRight_xor_distrib ..
  · simp only [BitVec.getLsbD_xor]
    cases a.getLsbD 0 <;> cases b.getLsbD 0 <;> simp

theorem bit_inj {a b : BitVec 32} (h : bit a = bit b) : a = b := by
  have h31 : ∀ c : BitVec 32, (bit c).getLsbD 31 = c.getLsbD 0 := by
    intro c
    unfold bit
    simp only [BitVec.getLsbD_xor, BitVec.getLsbD_ushiftRight]
    rw [BitVec.getLsbD_of_ge c (1 + 31) (by omega)]
    cases c.getLsbD 0 <;> decide
  have h0 : a.getLsbD 0 = b.getLsbD 0 := by rw [← h31 a, ← h31 b, h]
  have hs : a >>> 1 = b >>> 1 := by
    unfold bit at h
    rw [h0] at h
    have := congrArg (· ^^^ (if b.getLsbD 0 = true then poly else 0)) h
    simpa [BitVec.xor_assoc] using this
  apply BitVec.eq_of_getLsbD_eq
  intro i hi
  rcases i with _ | i
  · exact h0
  · have := congrArg (·.getLsbD i) hs
    simp only [BitVec.getLsbD_ushiftRight] at this
    rw [show i + 1 = 1 + i from by omega]; exact this

def iter (f : BitVec 32 → BitVec 32) : Nat → BitVec 32 → BitVec 32
  | 0, c => c
  | n + 1, c => iter f n (f c)

theorem iter_add (f : BitVec 32 → BitVec 32) (m n : Nat) (c : BitVec 32) : iter f (m + n) c = iter f n (iter f m c) := by
  induction m generalizing c with
  | zero => simp [iter]
  | succ m ih => rw [show m + 1 + n = (m + n) + 1 from by omega]; simp only [iter]; exact ih _

theorem iter_xor (n : Nat) (a b : BitVec 32) : iter bit n (a ^^^ b) = iter bit n a ^^^ iter bit n b := by
  induction n generalizing a b with
  | zero => rfl
  | succ n ih => simp only [iter]; rw [bit_xor]; exact ih _ _

theorem iter_inj (n : Nat) {a b : BitVec 32} (h : iter bit n a = iter bit n b) : a = b := by
  induction n generalizing a b with
  | zero => exact h
  | succ n ih => exact bit_inj (ih h)

theorem iter_high (n : Nat) (c : BitVec 32) (h : ∀ i, i < n → c.getLsbD i = false) : iter bit n c = c >>> n := by
  induction n generalizing c with
  | zero => simp [iter]
  | succ n ih =>
    simp only [iter]
    have hb : bit c = c >>> 1 := by
      unfold bit; rw [h 0 (by omega)]; simp
    rw [hb, ih]
    · rw [← BitVec.shiftRight_add, show 1 + n = n + 1 from by omega]
    · intro i hi
      simp only [BitVec.getLsbD_ushiftRight]
      rw [show 1 + i = i + 1 from by omega]
      exact h (i + 1) (by omega)

theorem low_cases (c : BitVec 32) : iter bit 4 (c &&& 15#32) = tab (c &&& 15#32).toNat := by
  have hlt : (c &&& 15#32).toNat < 16 := by
    rw [BitVec.toNat_and]
    exact Nat.lt_of_le_of_lt Nat.and_le_right (by decide)
  have key : ∀ n : Fin 16, iter bit 4 (BitVec.ofNat 32 n.val) = tab n.val := by decide
  have := key ⟨(c &&& 15#32).toNat, hlt⟩
  simpa using this

theorem nib_eq (c : BitVec 32) : nib c = iter bit 4 c := by
  have hsplit : c = (c &&& ~~~ 15#32) ^^^ (c &&& 15#32) := by
    apply BitVec.eq_of_getLsbD_eq
    intro i hi
    simp only [BitVec.getLsbD_xor, BitVec.getLsbD_and, BitVec.getLsbD_not]
    cases c.getLsbD i <;> cases (15#32).getLsbD i <;> simp [hi]
  have hlow : ∀ i, i < 4 → (c &&& ~~~ 15#32).getLsbD i = false := by
    intro i hi
    simp only [BitVec.getLsbD_and, BitVec.getLsbD_not]
    rcases i with _ | _ | _ | _ | i <;> simp <;> omega
  have hsh : (c &&& ~~~ 15#32) >>> 4 = c >>> 4 := by
    apply BitVec.eq_of_getLsbD_eq
    intro i hi
    simp only [BitVec.getLsbD_ushiftRight, BitVec.getLsbD_and, BitVec.getLsbD_not]
    have : (15#32).getLsbD (4 + i) = false := by
      simp only [BitVec.getLsbD, BitVec.toNat_ofNat]
      apply Nat.testBit_lt_two_pow
      exact Nat.lt_of_lt_of_le (by decide : 15 % 2 ^ 32 < 2 ^ 4) (Nat.pow_le_pow_right (by omega) (by omega))
    rw [this]
    by_cases h32 : 4 + i < 32
    · simp [h32]
    · simp [h32, BitVec.getLsbD_of_ge c (4 + i) (by omega)]
  unfold nib
  conv => rhs; rw [hsplit, iter_xor, iter_high 4 _ hlow, low_cases, hsh]

theorem byte_eq (c : BitVec 32) (b : UInt8) : byte c b = iter bit 8 (c ^^^ ofByte b) := by
  unfold byte; rw [nib_eq, nib_eq, ← iter_add]

/-! rows -/
theorem run_append (c : BitVec 32) (a b : List UInt8) : run c (a ++ b) = run (run c a) b := by simp [run]
theorem run_cons (c : BitVec 32) (x : UInt8) (l : List UInt8) : run c (x :: l) = run (byte c x) l := rfl
theorem run_inj (l : List UInt8) {a b : BitVec 32} (h : run a l = run b l) : a = b := by
  induction l generalizing a b with
  | nil => exact h
  | cons x l ih =>
    have := ih h
    rw [byte_eq, byte_eq] at this
    have := iter_inj 8 this
    have := congrArg (· ^^^ ofByte x) this
    simpa [BitVec.xor_assoc] using this

theorem more_nil (s : BitVec 32) : more s [] = s := by simp [more, run]
theorem more_append (s : BitVec 32) (a b : List UInt8) : more s (a ++ b) = more (more s a) b := by
  unfold more; rw [run_append, BitVec.not_not]
theorem sum_append (a b : List UInt8) : sum (a ++ b) = more (sum a) b := more_append 0 a b

/-- the state is the start's, xored with what the row makes of nought -/
theorem run_xor (l m : List UInt8) (h : l.length = m.length) (a b : BitVec 32) :
    run a l ^^^ run b m = run (a ^^^ b) (List.zipWith (· ^^^ ·) l m) := by
  induction l generalizing m a b with
  | nil => cases m with
    | nil => rfl
    | cons _ _ => simp at h
  | cons x l ih =>
    cases m with
    | nil => simp at h
    | cons y m =>
      simp only [run_cons, List.zipWith_cons_cons]
      rw [ih m (by simpa using h)]
      congr 1
      rw [byte_eq, byte_eq, byte_eq, ← iter_xor]
      congr 1
      rw [xor_comm4]
      congr 1
      simp only [ofByte]
      apply BitVec.eq_of_toNat_eq
      have hx := x.toNat_lt
      have hy := y.toNat_lt
      have hxy := (x ^^^ y).toNat_lt
      rw [BitVec.toNat_xor, BitVec.toNat_ofNat, BitVec.toNat_ofNat, BitVec.toNat_ofNat]
      rw [Nat.mod_eq_of_lt (by omega), Nat.mod_eq_of_lt (by omega), Nat.mod_eq_of_lt (by omega)]
      simp

theorem sum_mix (a b c : List UInt8) (hb : b.length = a.length) (hc : c.length = a.length) :
    sum (List.zipWith (· ^^^ ·) (List.zipWith (· ^^^ ·) a b) c) = sum a ^^^ sum b ^^^ sum c := by
  unfold sum more
  have h1 := run_xor a b hb.symm (~~~ 0) (~~~ 0)
  have h2 := run_xor (List.zipWith (· ^^^ ·) a b) c (by simp [hb, hc]) (~~~ 0 ^^^ ~~~ 0) (~~~ 0)
  rw [← h1] at h2
  have e : (~~~ (0 : BitVec 32)) ^^^ ~~~ 0 ^^^ ~~~ 0 = ~~~ 0 := by decide
  rw [e] at h2
  rw [← h2]
  have e2 : ∀ x y z : BitVec 32, ~~~ (x ^^^ y ^^^ z) = ~~~ x ^^^ ~~~ y ^^^ ~~~ z := by
    intro x y z
    apply BitVec.eq_of_getLsbD_eq
    intro i hi
    simp only [BitVec.getLsbD_xor, BitVec.getLsbD_not, hi]
    cases x.getLsbD i <;> cases y.getLsbD i <;> cases z.getLsbD i <;> rfl
  exact e2 _ _ _

/-! four bytes side by side -/
theorem ofByte_high (b : UInt8) (n : Nat) (h : n + 8 ≤ 32) : iter bit n (ofByte b <<< n) = ofByte b := by
  rw [iter_high]
  · apply BitVec.eq_of_getLsbD_eq
    intro i hi
    simp only [BitVec.getLsbD_ushiftRight, BitVec.getLsbD_shiftLeft]
    by_cases h8 : i < 8
    · have : n + i < 32 := by omega
      simp [this]
    · have hz : (ofByte b).getLsbD i = false := by
        simp only [ofByte, BitVec.getLsbD, BitVec.toNat_ofNat]
        have hb := b.toNat_lt
        rw [Nat.mod_eq_of_lt (by omega)]
        apply Nat.testBit_lt_two_pow
        exact Nat.lt_of_lt_of_le (by omega : b.toNat < 2 ^ 8) (Nat.pow_le_pow_right (by omega) (by omega))
      rw [hz]; simp [hz]
  · intro i hi
    simp [BitVec.getLsbD_shiftLeft, hi]

theorem byte_iter (n : Nat) (x : BitVec 32) (b : UInt8) (h : n + 8 ≤ 32) : byte (iter bit n x) b = iter bit (n + 8) (x ^^^ (ofByte b <<< n)) := by
  rw [byte_eq, iter_add, iter_xor n, ofByte_high b n h]

theorem run_zero (n : Nat) : run 0 (List.replicate n 0) = 0 := by
  induction n with
  | zero => rfl
  | succ n ih =>
    rw [List.replicate_succ, run_cons]
    have : byte 0 0 = 0 := by decide
    rw [this]; exact ih

/-- the bytes of a number, the lowest first -/
def low (n : BitVec 32) : List UInt8 := [b8 n.toNat, b8 (n.toNat / 256), b8 (n.toNat / 65536), b8 (n.toNat / 16777216)]

theorem ofByte_b8 (n : Nat) : ofByte (b8 n) = BitVec.ofNat 32 (n % 256) := by
  simp [ofByte, b8]

theorem low_join (n : BitVec 32) : (((ofByte (b8 n.toNat)) ^^^ (ofByte (b8 (n.toNat / 256)) <<< 8)) ^^^ (ofByte (b8 (n.toNat / 65536)) <<< 16)) ^^^ (ofByte (b8 (n.toNat / 16777216)) <<< 24) = n := by
  have e0 : ofByte (b8 n.toNat) = n &&& 255#32 := by
    rw [ofByte_b8]; apply BitVec.eq_of_toNat_eq
    have := n.isLt
    rw [BitVec.toNat_ofNat, BitVec.toNat_and, Nat.mod_eq_of_lt (by omega)]
    exact (Nat.and_two_pow_sub_one_eq_mod n.toNat 8).symm
  have e1 : ∀ k, ofByte (b8 (n.toNat / 2 ^ k)) = (n >>> k) &&& 255#32 := by
    intro k
    rw [ofByte_b8]; apply BitVec.eq_of_toNat_eq
    have := n.isLt
    rw [BitVec.toNat_ofNat, BitVec.toNat_and, BitVec.toNat_ushiftRight, Nat.mod_eq_of_lt (by omega), Nat.shiftRight_eq_div_pow]
    exact (Nat.and_two_pow_sub_one_eq_mod _ 8).symm
  rw [e0, show n.toNat / 256 = n.toNat / 2 ^ 8 from rfl, show n.toNat / 65536 = n.toNat / 2 ^ 16 from rfl, show n.toNat / 16777216 = n.toNat / 2 ^ 24 from rfl, e1, e1, e1]
  apply BitVec.eq_of_getLsbD_eq
  intro i hi
  have h255 : ∀ j, (255#32).getLsbD j = decide (j < 8) := by
    intro j
    have : (255#32).getLsbD j = (255).testBit j := rfl
    rw [this, show (255 : Nat) = 2 ^ 8 - 1 from rfl, Nat.testBit_two_pow_sub_one]
  simp only [BitVec.getLsbD_xor, BitVec.getLsbD_and, BitVec.getLsbD_shiftLeft, BitVec.getLsbD_ushiftRight, h255, hi, decide_true, Bool.true_and]
  by_cases h8 : i < 8
  · simp [h8, show i < 16 from by omega, show i < 24 from by omega]
  · by_cases h16 : i < 16
    · simp [h8, h16, show i < 24 from by omega, show i - 8 < 8 from by omega, show 8 + (i - 8) = i from by omega]
    · by_cases h24 : i < 24
      · simp [h8, h16, h24, show ¬ i - 8 < 8 from by omega, show i - 16 < 8 from by omega, show 16 + (i - 16) = i from by omega]
      · simp [h8, h16, h24, show ¬ i - 8 < 8 from by omega, show ¬ i - 16 < 8 from by omega, show i - 24 < 8 from by omega, show 24 + (i - 24) = i from by omega]

theorem run_low (n : BitVec 32) : run 0 (low n) = iter bit 32 n := by
  have h0 : byte 0 (b8 n.toNat) = iter bit 8 (ofByte (b8 n.toNat)) := by rw [byte_eq]; simp
  simp only [low, run, List.foldl]
  rw [h0, byte_iter 8 _ _ (by omega), byte_iter 16 _ _ (by omega), byte_iter 24 _ _ (by omega), low_join]

/-- a row of noughts but for four bytes -/
def spot (len at_ : Nat) (n : BitVec 32) : List UInt8 := List.replicate at_ 0 ++ (low n ++ List.replicate (len - at_ - 4) 0)
theorem run_spot (len at_ : Nat) (n : BitVec 32) (hn : n ≠ 0) : run 0 (spot len at_ n) ≠ 0 := by
  intro h
  unfold spot at h
  rw [run_append, run_zero, run_append] at h
  have h1 : run (run 0 (low n)) (List.replicate (len - at_ - 4) 0) = run 0 (List.replicate (len - at_ - 4) 0) := by rw [h, run_zero]
  have h2 := run_inj _ h1
  rw [run_low] at h2
  have h3 : iter bit 32 n = iter bit 32 0 := by rw [h2]; decide
  exact hn (iter_inj 32 h3)

/-- bytes at four places, turned one behind the other -/
def turnTo (s : List UInt8) (at_ : Nat) (n : BitVec 32) : Nat → List UInt8
  | 0 => s
  | k + 1 => (turnTo s at_ n k).set (at_ + k) ((turnTo s at_ n k).getD (at_ + k) 0 ^^^ b8 (n.toNat / 2 ^ (8 * k)))

theorem turnTo_length (s : List UInt8) (at_ : Nat) (n : BitVec 32) (k : Nat) : (turnTo s at_ n k).length = s.length := by
  induction k with
  | zero => rfl
  | succ k ih => simp [turnTo, ih]

theorem turnTo_get (s : List UInt8) (at_ : Nat) (n : BitVec 32) (k i : Nat) (h : at_ + k ≤ s.length) (hi : i < s.length) :
    (turnTo s at_ n k).getD i 0 = if at_ ≤ i ∧ i < at_ + k then s.getD i 0 ^^^ b8 (n.toNat / 2 ^ (8 * (i - at_))) else s.getD i 0 := by
  induction k with
  | zero => rw [if_neg (by omega)]; rfl
  | succ k ih =>
    have ih := ih (by omega)
    simp only [turnTo]
    by_cases e : i = at_ + k
    · subst e
      rw [if_pos (by omega), show at_ + k - at_ = k from by omega]
      rw [if_neg (by omega)] at ih
      rw [ih]
      simp [List.getD_eq_getElem?_getD, turnTo_length, show at_ + k < s.length from by omega]
    · have : ((turnTo s at_ n k).set (at_ + k) ((turnTo s at_ n k).getD (at_ + k) 0 ^^^ b8 (n.toNat / 2 ^ (8 * k)))).getD i 0 = (turnTo s at_ n k).getD i 0 := by
        simp [List.getD_eq_getElem?_getD, Ne.symm e]
      rw [this, ih]
      by_cases c : at_ ≤ i ∧ i < at_ + k
      · rw [if_pos c, if_pos (by omega)]
      · rw [if_neg c, if_neg (by omega)]

theorem getD_at {α : Type} (l : List α) (d : α) {i : Nat} (h : i < l.length) : l.getD i d = l[i] := by
  rw [List.getD_eq_getElem?_getD, List.getElem?_eq_getElem h]; rfl

theorem turned_eq (s : List UInt8) (at_ : Nat) (n : BitVec 32) (h : at_ + 4 ≤ s.length) : turnTo s at_ n 4 = List.zipWith (· ^^^ ·) s (spot s.length at_ n) := by
  have hsl : (spot s.length at_ n).length = s.length := by simp [spot, low]; omega
  apply List.ext_getElem
  · rw [turnTo_length, List.length_zipWith, hsl, Nat.min_self]
  · intro i h1 h2
    have hi : i < s.length := by rwa [turnTo_length] at h1
    have e := turnTo_get s at_ n 4 i h hi
    rw [getD_at _ _ h1] at e
    rw [e, List.getElem_zipWith]
    have hspot : (spot s.length at_ n)[i]'(by omega) = if at_ ≤ i ∧ i < at_ + 4 then b8 (n.toNat / 2 ^ (8 * (i - at_))) else 0 := by
      unfold spot
      by_cases h1 : i < at_
      · rw [List.getElem_append_left (by simpa using h1), if_neg (by omega)]; simp
      · rw [List.getElem_append_right (by simp; omega)]
        by_cases h2 : i < at_ + 4
        · rw [List.getElem_append_left (by simp [low]; omega), if_pos (by omega)]
          simp only [List.length_replicate]
          obtain ⟨k, rfl⟩ : ∃ k, i = at_ + k := ⟨i - at_, by omega⟩
          simp only [show at_ + k - at_ = k from by omega]
          match k, (show k < 4 by omega) with
          | 0, _ => simp [low]
          | 1, _ => simp [low]
          | 2, _ => simp [low]
          | 3, _ => simp [low]
        · rw [List.getElem_append_right (by simp [low]; omega), if_neg (by omega)]; simp
    rw [hspot, getD_at _ _ hi]
    by_cases c : at_ ≤ i ∧ i < at_ + 4
    · rw [if_pos c, if_pos c]
    · rw [if_neg c, if_neg c]; simp

theorem sum_turned (s : List UInt8) (at_ : Nat) (n : BitVec 32) (h : at_ + 4 ≤ s.length) (hn : n ≠ 0) : sum (turnTo s at_ n 4) ≠ sum s := by
  intro e
  rw [turned_eq s at_ n h] at e
  unfold sum more at e
  have hsl : s.length = (spot s.length at_ n).length := by simp [spot, low]; omega
  have h1 := run_xor s (spot s.length at_ n) hsl (~~~ 0) 0
  rw [show (~~~ (0 : BitVec 32)) ^^^ 0 = ~~~ 0 from by decide] at h1
  rw [← h1] at e
  have e2 := congrArg (~~~ ·) e
  simp only [BitVec.not_not] at e2
  have e3 := congrArg (run (~~~ 0) s ^^^ ·) e2
  simp only [← BitVec.xor_assoc, BitVec.xor_self, BitVec.zero_xor] at e3
  exact run_spot s.length at_ n hn e3

/-! tails -/
theorem tail_length (s : BitVec 32) : (tail s).length = 4 := rfl
theorem b8_eq {a b : Nat} (h : b8 a = b8 b) : a % 256 = b % 256 := by
  have := congrArg UInt8.toNat h
  simpa [b8] using this
theorem tail_inj {s t : BitVec 32} (h : tail s = tail t) : s = t := by
  simp only [tail, List.cons.injEq, and_true] at h
  obtain ⟨h0, h1, h2, h3⟩ := h
  have h0 := b8_eq h0; have h1 := b8_eq h1; have h2 := b8_eq h2; have h3 := b8_eq h3
  apply BitVec.eq_of_toNat_eq
  have := s.isLt; have := t.isLt
  omega

theorem isGood_tail (l : List UInt8) (t : BitVec 32) : isGood (l ++ tail t) = decide (t = sum l) := by
  unfold isGood
  have hl : (l ++ tail t).length = l.length + 4 := by simp [tail]
  rw [hl, show l.length + 4 - 4 = l.length from by omega, List.drop_left, List.take_left]
  rw [Bool.eq_iff_iff]
  simp only [Bool.and_eq_true, decide_eq_true_eq, beq_iff_eq]
  constructor
  · exact fun h => tail_inj h.2
  · exact fun h => ⟨by omega, by rw [h]⟩
theorem good_tail (l : List UInt8) : good (l ++ tail (sum l)) = l := by
  unfold good
  rw [isGood_tail]
  have hl : (l ++ tail (sum l)).length = l.length + 4 := by simp [tail]
  simp [hl]
theorem good_back (l : List UInt8) (h : isGood l = true) : good l ++ tail (sum (good l)) = l := by
  have h' := h
  unfold isGood at h'
  simp only [Bool.and_eq_true, beq_iff_eq] at h'
  unfold good
  rw [if_pos h, ← h'.2, List.take_append_drop]
theorem good_not (l : List UInt8) (h : isGood l = false) : good l = [] := by unfold good; rw [if_neg (by simp [h])]

end Crc
