/- Layer 6: a frame's bytes, and the frame that bytes are, as plain functions on lists of bytes. No function of the program. -/
import Derived.Test.YtihhflajkohibaaGreatDoorLinkPlain
import Derived.Test.YtihhflajkohibaaGreatDoorCrcMany
namespace Go.Proofs.YtihhflajkohibaaGreatDoor.Frame
set_option linter.unusedSimpArgs false
set_option linter.unusedVariables false
set_option maxRecDepth 100000
open Go.Proofs.YtihhflajkohibaaGreatDoor.Link (Fr)

/-- a number's last bytes, so many, the highest first -/
def hi (n : Nat) : Nat → List UInt8
  | 0 => []
  | k + 1 => Crc.b8 (n / 256 ^ k) :: hi n k
/-- the number that bytes are -/
def num (l : List UInt8) : Nat := l.foldl (fun n c => n * 256 + c.toNat) 0
def head (f : Fr) : List UInt8 := [78, 1, Crc.b8 f.kind.toNat] ++ (hi f.epoch.toNat 2 ++ (hi f.seq.toNat 8 ++ (hi f.ack.toNat 8 ++ (hi f.body.size 2 ++ f.body.data.toList))))
def put (f : Fr) : List UInt8 := head f ++ Crc.tail (Crc.sum (head f))
def sub (s : List UInt8) (a n : Nat) : List UInt8 := (s.drop a).take n
def noFr : Fr := ⟨0, 0, 0, 0, ⟨#[]⟩⟩
/-- what stands in bytes -/
def parts (s : List UInt8) : Fr := ⟨((s.getD 2 0).toNat : Int), (num (sub s 3 2) : Int), (num (sub s 5 8) : Int), (num (sub s 13 8) : Int), ⟨(sub s 23 (s.length - 27)).toArray⟩⟩
/-- where what is wrong; 0 and 0: nothing -/
def why (s : List UInt8) : Nat × Int :=
  if s.length < 27 then (s.length, 61)
  else if s.getD 0 0 ≠ 78 then (0, 62)
  else if s.getD 1 0 ≠ 1 then (1, 63)
  else if num (sub s 21 2) ≠ s.length - 27 then (21, 64)
  else if Crc.isGood s = false then (s.length - 4, 65)
  else if (parts s).right = false then (2, 66)
  else (0, 0)
def get (s : List UInt8) : Fr := if (why s).2 = 0 then parts s else noFr

/-! numbers -/
theorem hi_length (n k : Nat) : (hi n k).length = k := by
  induction k with
  | zero => rfl
  | succ k ih => simp [hi, ih]
theorem num_from (l : List UInt8) (a : Nat) : l.foldl (fun n c => n * 256 + c.toNat) a = a * 256 ^ l.length + num l := by
  unfold num
  induction l generalizing a with
  | nil => simp
  | cons x l ih =>
    simp only [List.foldl_cons, List.length_cons]
    rw [ih (a * 256 + x.toNat), ih (0 * 256 + x.toNat), Nat.pow_succ, Nat.zero_mul, Nat.zero_add, Nat.add_mul, Nat.mul_assoc a, Nat.mul_comm 256, Nat.add_assoc]
theorem num_cons (x : UInt8) (l : List UInt8) : num (x :: l) = x.toNat * 256 ^ l.length + num l := by
  have := num_from l (0 * 256 + x.toNat)
  rw [Nat.zero_mul, Nat.zero_add] at this
  rw [← this]; simp [num]
theorem num_snoc (x : UInt8) (l : List UInt8) : num (l ++ [x]) = num l * 256 + x.toNat := by simp [num]
theorem num_lt (l : List UInt8) : num l < 256 ^ l.length := by
  induction l with
  | nil => simp [num]
  | cons x l ih =>
    rw [num_cons, List.length_cons, Nat.pow_succ]
    have := x.toNat_lt
    have h : x.toNat * 256 ^ l.length ≤ 255 * 256 ^ l.length := Nat.mul_le_mul_right _ (by omega)
    omega
theorem b8_toNat (n : Nat) : (Crc.b8 n).toNat = n % 256 := by simp [Crc.b8]
theorem b8_of (x : UInt8) (n : Nat) (h : n % 256 = x.toNat) : Crc.b8 n = x := by
  apply UInt8.toNat_inj.1; rw [b8_toNat, h]
theorem num_hi (n k : Nat) : num (hi n k) = n % 256 ^ k := by
  induction k with
  | zero => simp [hi, num, Nat.mod_one]
  | succ k ih =>
    rw [hi, num_cons, b8_toNat, hi_length, ih, Nat.pow_succ, Nat.mod_mul, Nat.mul_comm (256 ^ k), Nat.add_comm]
theorem hi_add (a k j m : Nat) (h : j ≤ k) : hi (a * 256 ^ k + m) j = hi m j := by
  induction j with
  | zero => rfl
  | succ j ih =>
    rw [hi, hi, ih (by omega)]
    congr 1
    apply b8_of
    rw [b8_toNat]
    have hk : 256 ^ k = 256 ^ j * (256 * 256 ^ (k - j - 1)) := by
      rw [← Nat.mul_assoc, ← Nat.pow_succ, ← Nat.pow_add]; congr 1; omega
    rw [hk, show a * (256 ^ j * (256 * 256 ^ (k - j - 1))) = 256 ^ j * (a * (256 * 256 ^ (k - j - 1))) from by
      rw [← Nat.mul_assoc, Nat.mul_comm a, Nat.mul_assoc], Nat.mul_add_div (Nat.pow_pos (by decide))]
    rw [show a * (256 * 256 ^ (k - j - 1)) = 256 * (a * 256 ^ (k - j - 1)) from by rw [← Nat.mul_assoc, Nat.mul_comm a, Nat.mul_assoc]]
    omega
theorem hi_num (l : List UInt8) : hi (num l) l.length = l := by
  induction l with
  | nil => rfl
  | cons x l ih =>
    have hlt := num_lt l
    rw [num_cons, List.length_cons, hi, hi_add _ _ _ _ (Nat.le_refl _), ih]
    congr 1
    apply b8_of
    rw [Nat.mul_comm, Nat.mul_add_div (Nat.pow_pos (by decide)), Nat.div_eq_of_lt hlt, Nat.add_zero]
    have := x.toNat_lt
    omega
theorem hi_num_of {l : List UInt8} {k : Nat} (h : l.length = k) : hi (num l) k = l := by subst h; exact hi_num l

/-! a frame's numbers are numbers -/
structure Fits (f : Fr) : Prop where
  s0 : 0 ≤ f.seq
  s1 : f.seq < 18446744073709551616
  a0 : 0 ≤ f.ack
  a1 : f.ack < 18446744073709551616

theorem right_iff {f : Fr} : f.right = true ↔ 0 ≤ f.epoch ∧ f.epoch ≤ 65535 ∧ f.body.size ≤ 64 ∧ (f.kind = 1 ∨ f.kind = 2 ∧ f.body.size = 0) := by
  unfold Fr.right; exact decide_eq_true_iff

theorem head_length (f : Fr) : (head f).length = 23 + f.body.size := by
  have e : f.body.data.toList.length = f.body.size := by simp
  simp only [head, List.length_append, List.length_cons, List.length_nil, hi_length, e]; omega
theorem put_length (f : Fr) : (put f).length = 27 + f.body.size := by
  unfold put; rw [List.length_append, head_length, Crc.tail_length]; omega

theorem sub_left (a b : List UInt8) (k n : Nat) (h : k + n ≤ a.length) : sub (a ++ b) k n = sub a k n := by
  unfold sub
  rw [List.drop_append_of_le_length (by omega), List.take_append_of_le_length (by rw [List.length_drop]; omega)]
theorem sub_right (a b : List UInt8) (k n : Nat) (h : a.length = k) : sub (a ++ b) k n = b.take n := by
  unfold sub; subst h; rw [List.drop_left]
theorem sub_length (s : List UInt8) (k n : Nat) (h : k + n ≤ s.length) : (sub s k n).length = n := by
  unfold sub; rw [List.length_take, List.length_drop]; omega
theorem sub_mid (a b c : List UInt8) (k n : Nat) (h : a.length = k) (hb : b.length = n) : sub (a ++ (b ++ c)) k n = b := by
  rw [sub_right _ _ _ _ h]; subst hb; exact List.take_left
theorem body_length (f : Fr) : f.body.data.toList.length = f.body.size := by simp

/-- what stands in a frame's bytes -/
theorem parts_put (f : Fr) (hr : f.right = true) (hf : Fits f) : parts (put f) = f := by
  obtain ⟨e0, e1, b64, hk⟩ := right_iff.1 hr
  have hk2 : f.kind = 1 ∨ f.kind = 2 := by omega
  have hb := body_length f
  have hlen := put_length f
  unfold parts
  rw [hlen]
  have g2 : (put f).getD 2 0 = Crc.b8 f.kind.toNat := by simp [put, head]
  have p3 : sub (put f) 3 2 = hi f.epoch.toNat 2 := by
    unfold put head; rw [List.append_assoc, List.append_assoc]; exact sub_mid _ _ _ _ _ rfl (hi_length ..)
  have p5 : sub (put f) 5 8 = hi f.seq.toNat 8 := by
    unfold put head; rw [← List.append_assoc, List.append_assoc, List.append_assoc (hi f.seq.toNat 8)]; exact sub_mid _ _ _ _ _ (by simp [hi_length]) (hi_length ..)
  have p13 : sub (put f) 13 8 = hi f.ack.toNat 8 := by
    unfold put head; rw [← List.append_assoc, ← List.append_assoc, List.append_assoc, List.append_assoc (hi f.ack.toNat 8)]; exact sub_mid _ _ _ _ _ (by simp [hi_length]) (hi_length ..)
  have p23 : sub (put f) 23 (27 + f.body.size - 27) = f.body.data.toList := by
    unfold put head; rw [← List.append_assoc, ← List.append_assoc, ← List.append_assoc, ← List.append_assoc, List.append_assoc]; exact sub_mid _ _ _ _ _ (by simp [hi_length]) (by rw [hb]; omega)
  rw [g2, p3, p5, p13, p23, num_hi, num_hi, num_hi, b8_toNat]
  have s0 := hf.s0; have s1 := hf.s1; have a0 := hf.a0; have a1 := hf.a1
  obtain ⟨kind, epoch, seq, ack, body⟩ := f
  simp only at *
  simp only [Fr.mk.injEq]
  refine ⟨by omega, by omega, by omega, by omega, ?_⟩
  simp
theorem num_size_put (f : Fr) (hr : f.right = true) : num (sub (put f) 21 2) = f.body.size := by
  obtain ⟨e0, e1, b64, hk⟩ := right_iff.1 hr
  have p : sub (put f) 21 2 = hi f.body.size 2 := by
    unfold put head; rw [← List.append_assoc, ← List.append_assoc, ← List.append_assoc, List.append_assoc, List.append_assoc (hi f.body.size 2)]; exact sub_mid _ _ _ _ _ (by simp [hi_length]) (hi_length ..)
  rw [p, num_hi]; omega
theorem put_first (f : Fr) : (put f).getD 0 0 = 78 ∧ (put f).getD 1 0 = 1 := by constructor <;> rfl
theorem good_put (f : Fr) : Crc.isGood (put f) = true := by unfold put; rw [Crc.isGood_tail]; simp
/-- what is put is got again -/
theorem why_put (f : Fr) (hr : f.right = true) (hf : Fits f) : why (put f) = (0, 0) := by
  unfold why
  rw [put_length, num_size_put f hr, good_put, parts_put f hr hf, hr, (put_first f).1, (put_first f).2]
  rw [if_neg (by omega), if_neg (by simp), if_neg (by simp), if_neg (by omega), if_neg (by simp), if_neg (by simp)]
theorem get_put (f : Fr) (hr : f.right = true) (hf : Fits f) : get (put f) = f := by
  unfold get; rw [why_put f hr hf, if_pos rfl, parts_put f hr hf]
theorem put_inj {f g : Fr} (hf : f.right = true) (hg : g.right = true) (kf : Fits f) (kg : Fits g) (h : put f = put g) : f = g := by
  rw [← get_put f hf kf, ← get_put g hg kg, h]

/-- what it says of bytes where nothing is wrong -/
structure Fine (s : List UInt8) : Prop where
  len : 27 ≤ s.length
  magic : s.getD 0 0 = 78
  version : s.getD 1 0 = 1
  size : num (sub s 21 2) = s.length - 27
  good : Crc.isGood s = true
  right : (parts s).right = true
theorem fine_of {s : List UInt8} (h : (why s).2 = 0) : Fine s := by
  unfold why at h
  by_cases h1 : s.length < 27
  · rw [if_pos h1] at h; simp at h
  rw [if_neg h1] at h
  by_cases h2 : s.getD 0 0 ≠ 78
  · rw [if_pos h2] at h; simp at h
  rw [if_neg h2] at h
  by_cases h3 : s.getD 1 0 ≠ 1
  · rw [if_pos h3] at h; simp at h
  rw [if_neg h3] at h
  by_cases h4 : num (sub s 21 2) ≠ s.length - 27
  · rw [if_pos h4] at h; simp at h
  rw [if_neg h4] at h
  by_cases h5 : Crc.isGood s = false
  · rw [if_pos h5] at h; simp at h
  rw [if_neg h5] at h
  by_cases h6 : (parts s).right = false
  · rw [if_pos h6] at h; simp at h
  exact ⟨by omega, by simpa using h2, by simpa using h3, by omega, by simpa using h5, by simpa using h6⟩
theorem why_fine {s : List UInt8} (h : (why s).2 = 0) : (why s).1 = 0 := by
  have k := fine_of h
  have hl := k.len
  unfold why
  rw [k.magic, k.version, k.size, k.good, k.right, if_neg (by omega), if_neg (by simp), if_neg (by simp), if_neg (by omega), if_neg (by simp), if_neg (by simp)]
theorem why_le (s : List UInt8) : (why s).1 ≤ s.length := by
  by_cases h : (why s).2 = 0
  · rw [why_fine h]; exact Nat.zero_le _
  unfold why
  by_cases h1 : s.length < 27
  · rw [if_pos h1]; exact Nat.le_refl _
  rw [if_neg h1]
  by_cases h2 : s.getD 0 0 ≠ 78
  · rw [if_pos h2]; exact Nat.zero_le _
  rw [if_neg h2]
  by_cases h3 : s.getD 1 0 ≠ 1
  · rw [if_pos h3]; show 1 ≤ _; omega
  rw [if_neg h3]
  by_cases h4 : num (sub s 21 2) ≠ s.length - 27
  · rw [if_pos h4]; show 21 ≤ _; omega
  rw [if_neg h4]
  by_cases h5 : Crc.isGood s = false
  · rw [if_pos h5]; show s.length - 4 ≤ _; omega
  rw [if_neg h5]
  by_cases h6 : (parts s).right = false
  · rw [if_pos h6]; show 2 ≤ _; omega
  rw [if_neg h6]; exact Nat.zero_le _
theorem why_range (s : List UInt8) : (why s).2 = 0 ∨ 61 ≤ (why s).2 ∧ (why s).2 ≤ 66 := by
  unfold why
  by_cases h1 : s.length < 27
  · rw [if_pos h1]; simp
  rw [if_neg h1]
  by_cases h2 : s.getD 0 0 ≠ 78
  · rw [if_pos h2]; simp
  rw [if_neg h2]
  by_cases h3 : s.getD 1 0 ≠ 1
  · rw [if_pos h3]; simp
  rw [if_neg h3]
  by_cases h4 : num (sub s 21 2) ≠ s.length - 27
  · rw [if_pos h4]; simp
  rw [if_neg h4]
  by_cases h5 : Crc.isGood s = false
  · rw [if_pos h5]; simp
  rw [if_neg h5]
  by_cases h6 : (parts s).right = false
  · rw [if_pos h6]; simp
  rw [if_neg h6]; simp
theorem fits_parts (s : List UInt8) : Fits (parts s) := by
  have h : ∀ a : Nat, num (sub s a 8) < 18446744073709551616 := fun a => by
    have h1 := num_lt (sub s a 8)
    have h2 : (sub s a 8).length ≤ 8 := by unfold sub; rw [List.length_take]; omega
    exact Nat.lt_of_lt_of_le h1 (Nat.le_trans (Nat.pow_le_pow_right (by decide) h2) (by decide))
  have h5 := h 5
  have h13 := h 13
  exact ⟨Int.natCast_nonneg _, by show ((num (sub s 5 8) : Nat) : Int) < _; omega, Int.natCast_nonneg _, by show ((num (sub s 13 8) : Nat) : Int) < _; omega⟩
theorem split_at (s : List UInt8) (a n : Nat) : s.drop a = sub s a n ++ s.drop (a + n) := by
  unfold sub; rw [← List.drop_drop, List.take_append_drop]
/-- nothing else is got -/
theorem put_get {s : List UInt8} (h : (why s).2 = 0) : put (get s) = s := by
  have k := fine_of h
  have hl := k.len
  have e : get s = parts s := by unfold get; rw [if_pos h]
  rw [e]
  have hgood := Crc.good_back s k.good
  have hg : Crc.good s = s.take (s.length - 4) := by unfold Crc.good; rw [if_pos k.good]
  rw [hg] at hgood
  have hh : head (parts s) = s.take (s.length - 4) := by
    have hx : (sub s 23 (s.length - 27)).length = s.length - 27 := sub_length _ _ _ (by omega)
    have hz : (parts s).body.size = s.length - 27 := by rw [← body_length]; simpa [parts] using hx
    have h3 : hi (parts s).epoch.toNat 2 = sub s 3 2 := hi_num_of (sub_length _ _ _ (by omega))
    have h5 : hi (parts s).seq.toNat 8 = sub s 5 8 := hi_num_of (sub_length _ _ _ (by omega))
    have h13 : hi (parts s).ack.toNat 8 = sub s 13 8 := hi_num_of (sub_length _ _ _ (by omega))
    have h21 : hi (parts s).body.size 2 = sub s 21 2 := by rw [hz, ← k.size]; exact hi_num_of (sub_length _ _ _ (by omega))
    have hb : (parts s).body.data.toList = sub s 23 (s.length - 27) := by simp [parts]
    have h0 : s.take (s.length - 4) = s.take 23 ++ sub s 23 (s.length - 27) := by
      unfold sub
      rw [← List.take_add]; congr 1; omega
    have h1 : s.take 23 = s.take 3 ++ (sub s 3 2 ++ (sub s 5 8 ++ (sub s 13 8 ++ sub s 21 2))) := by
      have t : ∀ a n : Nat, s.take (a + n) = s.take a ++ sub s a n := fun a n => by unfold sub; rw [← List.take_add]
      rw [show 23 = 21 + 2 from rfl, t, show 21 = 13 + 8 from rfl, t, show 13 = 5 + 8 from rfl, t, show 5 = 3 + 2 from rfl, t]
      simp
    have h2 : s.take 3 = [78, 1, s.getD 2 0] := by
      have hm := k.magic
      have hv := k.version
      match s, hl with
      | a :: b :: c :: r, _ => simp at hm hv; simp [hm, hv]
    have hkind : Crc.b8 (parts s).kind.toNat = s.getD 2 0 := by
      apply b8_of
      have := (s.getD 2 0).toNat_lt
      show (((s.getD 2 0).toNat : Int)).toNat % 256 = _
      omega
    unfold head
    rw [h3, h5, h13, h21, hb, h0, h1, h2, hkind]
    simp
  unfold put
  rw [hh, hgood]
theorem right_get {s : List UInt8} (h : (why s).2 = 0) : (get s).right = true := by
  unfold get; rw [if_pos h]; exact (fine_of h).right
theorem get_none {s : List UInt8} (h : (why s).2 ≠ 0) : get s = noFr := by unfold get; rw [if_neg h]

/-! bytes of which one is another one -/
theorem ofByte_inj {x y : UInt8} (h : Crc.ofByte x = Crc.ofByte y) : x = y := by
  have := congrArg BitVec.toNat h
  simp only [Crc.ofByte, BitVec.toNat_ofNat] at this
  have hx := x.toNat_lt
  have hy := y.toNat_lt
  apply UInt8.toNat_inj.1
  omega
theorem sum_other (a b : List UInt8) {x y : UInt8} (h : Crc.sum (a ++ x :: b) = Crc.sum (a ++ y :: b)) : x = y := by
  unfold Crc.sum Crc.more at h
  have h := congrArg (fun c : BitVec 32 => ~~~ c) h
  simp only [BitVec.not_not] at h
  rw [Crc.run_append, Crc.run_append, Crc.run_cons, Crc.run_cons] at h
  have h := Crc.run_inj b h
  rw [Crc.byte_eq, Crc.byte_eq] at h
  have h := Crc.iter_inj 8 h
  have h := congrArg (fun c => Crc.run (~~~ 0) a ^^^ c) h
  simp only [← BitVec.xor_assoc, BitVec.xor_self, BitVec.zero_xor] at h
  exact ofByte_inj h
theorem isGood_parts (a b : List UInt8) (h : b.length = 4) : Crc.isGood (a ++ b) = (b == Crc.tail (Crc.sum a)) := by
  unfold Crc.isGood
  have e : (a ++ b).length - 4 = a.length := by rw [List.length_append, h]; omega
  rw [e, List.drop_left, List.take_left, List.length_append, h, decide_eq_true (by omega : 4 ≤ a.length + 4), Bool.true_and]
theorem turned_bad (f : Fr) (k : Nat) (y : UInt8) (hk : k < (put f).length) (hy : y ≠ (put f)[k]) : Crc.isGood ((put f).set k y) = false := by
  by_cases h : k < (head f).length
  · have e : (put f)[k] = (head f)[k] := by simp only [put]; exact List.getElem_append_left h
    rw [e] at hy
    unfold put
    rw [List.set_append_left _ _ h, Crc.isGood_tail]
    apply decide_eq_false
    intro hs
    have hsplit : head f = (head f).take k ++ (head f)[k] :: (head f).drop (k + 1) := by
      rw [← List.drop_eq_getElem_cons h, List.take_append_drop]
    have hset : (head f).set k y = (head f).take k ++ y :: (head f).drop (k + 1) := by
      rw [List.set_eq_take_append_cons_drop, if_pos h]
    rw [hset] at hs
    have hs' : Crc.sum ((head f).take k ++ (head f)[k] :: (head f).drop (k + 1)) = Crc.sum ((head f).take k ++ y :: (head f).drop (k + 1)) := by rw [← hsplit]; exact hs
    exact hy (sum_other _ _ hs').symm
  · have h' : (head f).length ≤ k := Nat.le_of_not_lt h
    have e : (put f)[k] = (Crc.tail (Crc.sum (head f)))[k - (head f).length]'(by have : (put f).length = (head f).length + 4 := by simp [put, Crc.tail_length]
                                                                                 rw [Crc.tail_length]; omega) := by simp only [put]; exact List.getElem_append_right h'
    rw [e] at hy
    unfold put
    rw [List.set_append_right _ _ h', isGood_parts _ _ (by rw [List.length_set, Crc.tail_length]), beq_eq_false_iff_ne]
    intro hs
    have hlt : k - (head f).length < 4 := by
      have : (put f).length = (head f).length + 4 := by simp [put, Crc.tail_length]
      omega
    have := congrArg (fun l => l[k - (head f).length]?) hs
    simp only [List.getElem?_set_self (show k - (head f).length < (Crc.tail (Crc.sum (head f))).length by rw [Crc.tail_length]; exact hlt)] at this
    rw [List.getElem?_eq_getElem (by rw [Crc.tail_length]; exact hlt)] at this
    exact hy (Option.some.inj this)
theorem why_turned (f : Fr) (k : Nat) (y : UInt8) (hk : k < (put f).length) (hy : y ≠ (put f)[k]) : (why ((put f).set k y)).2 ≠ 0 := fun h => by
  have := (fine_of h).good
  rw [turned_bad f k y hk hy] at this; cases this
theorem why_cut (f : Fr) (hr : f.right = true) (k : Nat) (hk : k < (put f).length) : (why ((put f).take k)).2 ≠ 0 := fun h => by
  have g := fine_of h
  have hl := g.len
  have hs := g.size
  rw [List.length_take] at hl hs
  have e : sub ((put f).take k) 21 2 = sub (put f) 21 2 := by
    unfold sub
    rw [List.drop_take, List.take_take, Nat.min_eq_left (by omega)]
  rw [e, num_size_put f hr] at hs
  rw [put_length] at hk hl hs
  omega
theorem why_long (f : Fr) (hr : f.right = true) (x : UInt8) : (why (put f ++ [x])).2 ≠ 0 := fun h => by
  have g := fine_of h
  have hs := g.size
  have hp := put_length f
  rw [sub_left _ _ _ _ (by omega), num_size_put f hr, List.length_append, hp] at hs
  simp at hs
  omega
end Go.Proofs.YtihhflajkohibaaGreatDoor.Frame
