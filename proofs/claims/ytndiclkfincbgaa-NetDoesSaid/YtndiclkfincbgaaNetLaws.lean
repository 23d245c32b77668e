/- Layer 8: plain laws of what acts make of nets: what is on its way was sent; what is done elsewhere is nothing to a way; a bit that is turned is one bit. Conditions: the net is Ok. -/
import Derived.Test.YtndiclkfincbgaaActs08
namespace Go.Proofs.Ytndiclkfincbgaa.Net
set_option linter.unusedSimpArgs false
set_option linter.unusedVariables false
open Go.RowKit
section
variable {s t : NS}
theorem mem_look {a b k : Int} (h : s.isAt a b k = true) : s.look a b k ∈ s.f a b := by
  unfold NS.look
  rw [if_pos h]
  simp only [NS.isAt, decide_eq_true_eq] at h
  rw [List.getD_eq_getElem?_getD, List.getElem?_eq_getElem (by omega)]
  exact List.getElem_mem _
/-- such bytes were sent there -/
def Sent (l : List Act8) (a b : Int) (t : ByteArray) : Prop := ∃ x ∈ l, x.K = 0 ∧ x.A = a ∧ x.B = b ∧ x.S = t
def AllSent (s : NS) (l : List Act8) : Prop := ∀ a b t, t ∈ s.f a b → Sent l a b t
theorem Sent.more {l : List Act8} {a b : Int} {t : ByteArray} (h : Sent l a b t) (x : Act8) : Sent (l ++ [x]) a b t := by
  obtain ⟨y, hy, h⟩ := h; exact ⟨y, List.mem_append_left _ hy, h⟩
theorem AllSent.more {l : List Act8} (h : AllSent s l) (x : Act8) : AllSent s (l ++ [x]) := fun a b t ht => (h a b t ht).more x
theorem AllSent.set {l : List Act8} (h : AllSent s l) (a b : Int) {r : List ByteArray} (hr : ∀ t ∈ r, Sent l a b t) : AllSent (s.set a b r) l := by
  intro x y t ht
  by_cases c : x = a ∧ y = b
  · obtain ⟨rfl, rfl⟩ := c; rw [NS.set_same] at ht; exact hr t ht
  · rw [NS.set_other _ _ _ _ _ _ c] at ht; exact h x y t ht
theorem AllSent.send {l : List Act8} (h : AllSent s l) (a b : Int) {u : ByteArray} (hu : Sent l a b u) : AllSent (s.send a b u) l := by
  unfold NS.send
  split
  · refine h.set a b fun t ht => ?_
    rcases List.mem_append.1 ht with ht | ht
    · exact h a b t ht
    · simp at ht; subst ht; exact hu
  · exact h
theorem AllSent.act {l : List Act8} (h : AllSent s l) (x : Act8) (h0 : 0 ≤ x.K) (h2 : x.K ≤ 2) : AllSent (s.act x) (l ++ [x]) := by
  unfold NS.act
  split
  · next h => exact (AllSent.more ‹_› x).send _ _ ⟨x, by simp, h, rfl, rfl, rfl⟩
  · split
    · unfold NS.deliver
      split
      · exact (h.more x).set _ _ fun t ht => (h _ _ t (List.mem_of_mem_eraseIdx ht)).more x
      · exact h.more x
    · split
      · unfold NS.double
        split
        · next hk => exact (h.more x).send _ _ ((h _ _ _ (mem_look hk)).more x)
        · exact h.more x
      · omega
/-- a send of just that -/
def isSent (t : ByteArray) (a b : Int) (x : Act8) : Bool := decide (x.K = 0 ∧ x.A = a ∧ x.B = b ∧ x.S = t)
theorem sent_any {l : List Act8} {a b : Int} {t : ByteArray} : l.any (isSent t a b) = true ↔ Sent l a b t := by
  simp [Sent, isSent]
variable {a b : Int}
/-- two nets between whose nodes a and b there is the same -/
structure Like (s t : NS) (a b : Int) : Prop where
  n : s.n = t.n
  m : s.m = t.m
  f : s.f a b = t.f a b
theorem Like.good (h : Like s t a b) (x y : Int) : s.good x y = t.good x y := by unfold NS.good; rw [h.n]
theorem act_else (s : NS) (x : Act8) {a b : Int} (h : ¬ (a = x.A ∧ b = x.B)) : (s.act x).f a b = s.f a b ∧ (s.act x).n = s.n ∧ (s.act x).m = s.m := by
  have hs : ∀ t, (s.send x.A x.B t).f a b = s.f a b ∧ (s.send x.A x.B t).n = s.n ∧ (s.send x.A x.B t).m = s.m := fun t => by
    unfold NS.send; split
    · exact ⟨NS.set_other _ _ _ _ _ _ h, rfl, rfl⟩
    · exact ⟨rfl, rfl, rfl⟩
  have hset : ∀ l, (s.set x.A x.B l).f a b = s.f a b ∧ (s.set x.A x.B l).n = s.n ∧ (s.set x.A x.B l).m = s.m := fun l => ⟨NS.set_other _ _ _ _ _ _ h, rfl, rfl⟩
  unfold NS.act NS.deliver NS.double NS.flip
  repeat (first | exact hs _ | exact hset _ | exact ⟨rfl, rfl, rfl⟩ | split)
theorem act_nm (s : NS) (x : Act8) : (s.act x).n = s.n ∧ (s.act x).m = s.m := by
  have hs : ∀ t, (s.send x.A x.B t).n = s.n ∧ (s.send x.A x.B t).m = s.m := fun t => by unfold NS.send; split <;> exact ⟨rfl, rfl⟩
  unfold NS.act NS.deliver NS.double NS.flip
  repeat (first | exact hs _ | exact ⟨rfl, rfl⟩ | split)
theorem Like.else_ (h : Like s t a b) (x : Act8) (hx : ¬ (a = x.A ∧ b = x.B)) : Like (s.act x) t a b := by
  obtain ⟨k1, k2, k3⟩ := act_else s x hx
  exact ⟨k2.trans h.n, k3.trans h.m, k1.trans h.f⟩
theorem Like.send (h : Like s t a b) (u : ByteArray) : (s.send a b u).f a b = (t.send a b u).f a b := by
  have e : s.sendOk a b = t.sendOk a b := by unfold NS.sendOk; rw [h.good, h.f, h.m]
  unfold NS.send
  rw [e]
  split
  · rw [NS.set_same, NS.set_same, h.f]
  · exact h.f
theorem Like.isAt (h : Like s t a b) (k : Int) : s.isAt a b k = t.isAt a b k := by unfold NS.isAt; rw [h.f]
theorem Like.look (h : Like s t a b) (k : Int) : s.look a b k = t.look a b k := by unfold NS.look; rw [h.isAt, h.f]
theorem Like.act (h : Like s t a b) (x : Act8) (ha : x.A = a) (hb : x.B = b) : Like (s.act x) (t.act x) a b := by
  subst ha; subst hb
  refine ⟨by rw [(act_nm s x).1, (act_nm t x).1, h.n], by rw [(act_nm s x).2, (act_nm t x).2, h.m], ?_⟩
  unfold NS.act
  split
  · exact h.send _
  · split
    · unfold NS.deliver
      rw [h.isAt]
      split
      · rw [NS.set_same, NS.set_same, h.f]
      · exact h.f
    · split
      · unfold NS.double
        rw [h.isAt, h.look]
        split
        · exact h.send _
        · exact h.f
      · unfold NS.flip NS.flipOk
        rw [h.isAt, h.look]
        split
        · rw [NS.set_same, NS.set_same, h.f]
        · exact h.f
end
/-- in how many of their first bits two bytes part -/
def rowBits (a c : UInt8) (n : Nat) : Nat := ((List.range n).filter fun k => (a.toNat >>> k) % 2 != (c.toNat >>> k) % 2).length
theorem rowBits_succ (a c : UInt8) (n : Nat) : rowBits a c (n + 1) = rowBits a c n + (if (a.toNat >>> n) % 2 = (c.toNat >>> n) % 2 then 0 else 1) := by
  unfold rowBits
  rw [List.range_succ, List.filter_append, List.length_append]
  by_cases h : (a.toNat >>> n) % 2 = (c.toNat >>> n) % 2 <;> simp [h]
theorem rowBits_same (a : UInt8) (n : Nat) : rowBits a a n = 0 := by simp [rowBits]
theorem rowBits_le (a c : UInt8) (n : Nat) : rowBits a c n ≤ n := by
  unfold rowBits; have := List.length_filter_le (fun k => (a.toNat >>> k) % 2 != (c.toNat >>> k) % 2) (List.range n); simpa using this
theorem bit_test (x k : Nat) : (x >>> k) % 2 = (x.testBit k).toNat := by
  rw [Nat.testBit, Nat.one_and_eq_mod_two]
  rcases Nat.mod_two_eq_zero_or_one (x >>> k) with h | h <;> simp [h]
theorem rowBits_one (a c : UInt8) (j : Nat) (hj : j < 8) (h : a.toNat = c.toNat ^^^ 2 ^ j) : rowBits a c 8 = 1 := by
  have e : ∀ k, ((a.toNat >>> k) % 2 != (c.toNat >>> k) % 2) = decide (j = k) := by
    intro k
    rw [bit_test, bit_test, h, Nat.testBit_xor, Nat.testBit_two_pow]
    by_cases hk : j = k
    · subst hk; cases c.toNat.testBit j <;> simp
    · cases c.toNat.testBit k <;> simp [hk]
  unfold rowBits
  rw [List.filter_congr fun k _ => e k]
  have : j = 0 ∨ j = 1 ∨ j = 2 ∨ j = 3 ∨ j = 4 ∨ j = 5 ∨ j = 6 ∨ j = 7 := by omega
  rcases this with rfl | rfl | rfl | rfl | rfl | rfl | rfl | rfl <;> decide
def allBits (s b : List UInt8) (n : Nat) : Nat := ((List.range n).map fun i => rowBits (s.getD i 0) (b.getD i 0) 8).sum
theorem allBits_succ (s b : List UInt8) (n : Nat) : allBits s b (n + 1) = allBits s b n + rowBits (s.getD n 0) (b.getD n 0) 8 := by
  simp [allBits, List.range_succ]
theorem allBits_le (s b : List UInt8) (n : Nat) : allBits s b n ≤ 8 * n := by
  induction n with
  | zero => simp [allBits]
  | succ n ih => rw [allBits_succ]; have := rowBits_le (s.getD n 0) (b.getD n 0) 8; omega
theorem allBits_set (b : List UInt8) (p : Nat) (x : UInt8) (n : Nat) (hp : p < b.length) : allBits (b.set p x) b n = if p < n then rowBits x (b.getD p 0) 8 else 0 := by
  induction n with
  | zero => simp [allBits]
  | succ n ih =>
    rw [allBits_succ, ih]
    by_cases h : p = n
    · subst h; simp [hp]
    · have : (b.set p x).getD n 0 = b.getD n 0 := by simp [List.getD_eq_getElem?_getD, h]
      rw [this, rowBits_same, Nat.add_zero]
      by_cases h2 : p < n
      · rw [if_pos h2, if_pos (by omega)]
      · rw [if_neg h2, if_neg (by omega)]
theorem turn_data (t : ByteArray) (bit : Int) : (NS.turn t bit).data.toList = t.data.toList.set (NS.place t.size bit / 8) ((t.data.toList.getD (NS.place t.size bit / 8) 0) ^^^ (1 <<< UInt8.ofNat (NS.place t.size bit % 8))) := by
  unfold NS.turn
  simp only [Array.toList_setIfInBounds]
  congr 2
  rw [Array.getD_eq_getD_getElem?, List.getD_eq_getElem?_getD, Array.getElem?_toList]
theorem turn_bits (t : ByteArray) (bit : Int) (ht : t.size ≠ 0) : allBits (NS.turn t bit).data.toList t.data.toList t.size = 1 := by
  have hp : NS.place t.size bit < 8 * t.size := Nat.mod_lt _ (by omega)
  have hl : t.data.toList.length = t.size := rfl
  generalize hpp : NS.place t.size bit = p at hp
  rw [turn_data, hpp, allBits_set _ _ _ _ (by omega), if_pos (by omega)]
  exact rowBits_one _ _ (p % 8) (Nat.mod_lt _ (by decide)) (xor_nat _ _ (Nat.mod_lt _ (by decide)))
theorem turn_turn (t : ByteArray) (bit : Int) : NS.turn (NS.turn t bit) bit = t := by
  have h : (NS.turn (NS.turn t bit) bit).data.toList = t.data.toList := by
    rw [turn_data, turn_size, turn_data]
    generalize NS.place t.size bit / 8 = i
    generalize (1 : UInt8) <<< UInt8.ofNat (NS.place t.size bit % 8) = x
    generalize t.data.toList = l
    by_cases hi : i < l.length
    · simp [List.getD_eq_getElem?_getD, hi, List.set_set, UInt8.xor_assoc]
    · rw [List.set_eq_of_length_le (by simp; omega), List.set_eq_of_length_le (by omega)]
  have h2 : (NS.turn (NS.turn t bit) bit).data = t.data := Array.ext' h
  exact ByteArray.ext h2
end Go.Proofs.Ytndiclkfincbgaa.Net
