/- Layer 8: a net as plain data: what each act makes of it. No function of the program. -/
import Derived.IntWalk
namespace Go.Proofs.YtihhflajkohibaaGreatDoor.Net
set_option linter.unusedSimpArgs false
set_option linter.unusedVariables false
set_option maxRecDepth 100000

/-- a net: how many nodes, how much room, and what is on its way from each to each -/
structure NS where
  n : Nat
  m : Nat
  f : Int → Int → List ByteArray

def clampN (n : Int) (hi : Nat) : Nat := (min (max n 0) hi).toNat
def new (n room : Int) : NS := ⟨clampN n 64, clampN room 1000, fun _ _ => []⟩
namespace NS
variable (s : NS)
def good (a b : Int) : Bool := decide (0 ≤ a ∧ a < (s.n : Int) ∧ 0 ≤ b ∧ b < (s.n : Int) ∧ a ≠ b)
/-- only nodes have ways, and none has more than there is room for -/
structure Ok : Prop where
  n64 : s.n ≤ 64
  m1000 : s.m ≤ 1000
  none_ : ∀ a b, s.good a b = false → s.f a b = []
  room : ∀ a b, (s.f a b).length ≤ s.m
def set (a b : Int) (l : List ByteArray) : NS := { s with f := fun x y => if x = a ∧ y = b then l else s.f x y }
theorem set_same (a b : Int) (l : List ByteArray) : (s.set a b l).f a b = l := by simp [set]
theorem set_other (a b x y : Int) (l : List ByteArray) (h : ¬ (x = a ∧ y = b)) : (s.set a b l).f x y = s.f x y := by simp only [set]; rw [if_neg h]
theorem set_self (a b : Int) : s.set a b (s.f a b) = s := by
  unfold set
  congr 1
  funext x y
  by_cases h : x = a ∧ y = b
  · rw [if_pos h, h.1, h.2]
  · rw [if_neg h]
variable {s}
theorem Ok.set (h : s.Ok) {a b : Int} {l : List ByteArray} (hg : s.good a b = true) (hl : l.length ≤ s.m) : (s.set a b l).Ok := by
  refine ⟨h.n64, h.m1000, fun x y hx => ?_, fun x y => ?_⟩
  · have hx' : s.good x y = false := hx
    rw [set_other]
    · exact h.none_ x y hx'
    · rintro ⟨rfl, rfl⟩; rw [hg] at hx'; cases hx'
  · by_cases c : x = a ∧ y = b
    · obtain ⟨rfl, rfl⟩ := c; rw [set_same]; exact hl
    · rw [set_other _ _ _ _ _ _ c]; exact h.room x y
variable (s)
def sendOk (a b : Int) : Bool := s.good a b && decide ((s.f a b).length < s.m)
def send (a b : Int) (t : ByteArray) : NS := if s.sendOk a b then s.set a b (s.f a b ++ [t]) else s
def isAt (a b k : Int) : Bool := decide (0 ≤ k ∧ k < ((s.f a b).length : Int))
def look (a b k : Int) : ByteArray := if s.isAt a b k then (s.f a b).getD k.toNat ⟨#[]⟩ else ⟨#[]⟩
def deliver (a b k : Int) : NS := if s.isAt a b k then s.set a b ((s.f a b).eraseIdx k.toNat) else s
def doubleOk (a b k : Int) : Bool := s.isAt a b k && s.sendOk a b
def double (a b k : Int) : NS := if s.isAt a b k then s.send a b (s.look a b k) else s
/-- a bit of some bytes turned -/
def place (size : Nat) (bit : Int) : Nat := (max (max bit (IntKind.i64.wrap (-bit))) 0).toNat % (8 * size)
def turn (t : ByteArray) (bit : Int) : ByteArray :=
  ⟨t.data.setIfInBounds (place t.size bit / 8) ((t.data.getD (place t.size bit / 8) 0) ^^^ (1 <<< UInt8.ofNat (place t.size bit % 8)))⟩
def flipOk (a b k : Int) : Bool := s.isAt a b k && !((s.look a b k).size == 0)
def flip (a b k bit : Int) : NS := if s.flipOk a b k then s.set a b ((s.f a b).set k.toNat (turn (s.look a b k) bit)) else s
def quiet : Prop := ∀ a b, s.f a b = []
variable {s}
theorem isAt_good (h : s.Ok) {a b k : Int} (hk : s.isAt a b k = true) : s.good a b = true := by
  cases hg : s.good a b
  · have := h.none_ a b hg
    simp only [isAt, this, decide_eq_true_eq, List.length_nil] at hk
    omega
  · rfl
theorem Ok.send (h : s.Ok) (a b : Int) (t : ByteArray) : (s.send a b t).Ok := by
  unfold NS.send
  cases hs : s.sendOk a b
  · exact h
  · rw [if_pos rfl]
    simp only [sendOk, Bool.and_eq_true, decide_eq_true_eq] at hs
    exact h.set hs.1 (by simp; omega)
theorem Ok.deliver (h : s.Ok) (a b k : Int) : (s.deliver a b k).Ok := by
  unfold NS.deliver
  cases hk : s.isAt a b k
  · exact h
  · rw [if_pos rfl]
    exact h.set (isAt_good h hk) (Nat.le_trans (List.length_eraseIdx_le _ _) (h.room a b))
theorem Ok.double (h : s.Ok) (a b k : Int) : (s.double a b k).Ok := by
  unfold NS.double
  split
  · exact h.send _ _ _
  · exact h
theorem Ok.flip (h : s.Ok) (a b k bit : Int) : (s.flip a b k bit).Ok := by
  unfold NS.flip
  cases hk : s.flipOk a b k
  · exact h
  · rw [if_pos rfl]
    simp only [flipOk, Bool.and_eq_true] at hk
    exact h.set (isAt_good h hk.1) (by rw [List.length_set]; exact h.room a b)
end NS
theorem new_ok (n room : Int) : (new n room).Ok := by
  refine ⟨?_, ?_, fun _ _ _ => rfl, fun _ _ => by simp [new]⟩ <;> simp only [new, clampN] <;> omega
end Go.Proofs.YtihhflajkohibaaGreatDoor.Net
