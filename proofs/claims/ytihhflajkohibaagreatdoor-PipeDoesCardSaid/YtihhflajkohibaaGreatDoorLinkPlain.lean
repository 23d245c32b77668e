/- Layer 9: an end of a link as plain data: what each act makes of it, and that two ends tell each body once, in order. No function of the program. -/
import Derived.IntWalk
import Derived.Laws.Bits64
namespace Go.Proofs.YtihhflajkohibaaGreatDoor.Link
set_option linter.unusedSimpArgs false
set_option linter.unusedVariables false
set_option maxRecDepth 100000

/-- a number of 64 bits without sign -/
def u (n : Int) : Int := IntKind.u64.wrap n
theorem u_eq (n : Int) : u n = n % 18446744073709551616 := IntKind.wrap_u64 n
theorem u_add (a b : Int) : u (u a + b) = u (a + b) := by simp only [u_eq]; omega
theorem u_small {n : Int} (h0 : 0 ≤ n) (h1 : n ≤ 1000000) : u n = n := by rw [u_eq]; omega
theorem u_sub (f a b : Int) : u (u (f + a) - u (f + b)) = u (a - b) := by simp only [u_eq]; omega
theorem u_inj {f a b : Int} (h : u (f + a) = u (f + b)) (h0 : 0 ≤ a) (h1 : a ≤ 1000) (h2 : 0 ≤ b) (h3 : b ≤ 1000) : a = b := by simp only [u_eq] at h; omega
theorem u_far {a b : Int} (h0 : 0 ≤ a) (h1 : a < b) (h2 : b ≤ 1000) : 1000 < u (a - b) := by rw [u_eq]; omega
theorem u_idem (a : Int) : u (u a) = u a := by simp only [u_eq]; omega
theorem u_nonneg (a : Int) : 0 ≤ u a := by rw [u_eq]; omega

/-- a frame -/
structure Fr where
  kind : Int
  epoch : Int
  seq : Int
  ack : Int
  body : ByteArray

/-- may it be? -/
def Fr.right (f : Fr) : Bool := decide (0 ≤ f.epoch ∧ f.epoch ≤ 65535 ∧ f.body.size ≤ 64 ∧ (f.kind = 1 ∨ f.kind = 2 ∧ f.body.size = 0))

/-- an end of a link -/
structure LE where
  epoch : Int
  window : Nat
  queue : Nat
  wait : Nat
  bodies : List ByteArray
  first : Int
  out : Nat
  ever : Nat
  want : Int
  owes : Bool
  age : Nat

structure LE.Ok (x : LE) : Prop where
  w1 : 1 ≤ x.window
  w8 : x.window ≤ 8
  q64 : x.queue ≤ 64
  t1 : 1 ≤ x.wait
  t100 : x.wait ≤ 100
  len : x.bodies.length ≤ x.queue
  oe : x.out ≤ x.ever
  ew : x.ever ≤ x.window
  el : x.ever ≤ x.bodies.length
  age : x.age < x.wait
  fu : u x.first = x.first
  wu : u x.want = x.want

def clampN (n : Int) (lo hi : Nat) : Nat := (min (max n lo) hi).toNat
def new (epoch first window queue wait : Int) : LE := ⟨epoch, clampN window 1 8, clampN queue 0 64, clampN wait 1 100, [], first, 0, 0, first, false, 0⟩
theorem new_ok (epoch first window queue wait : Int) (h : u first = first) : (new epoch first window queue wait).Ok := by
  refine ⟨?_, ?_, ?_, ?_, ?_, ?_, ?_, ?_, ?_, ?_, h, h⟩ <;> simp only [new, clampN, List.length_nil] <;> omega

namespace LE
variable (x : LE)
def sent (b : ByteArray) : LE := if b.size ≤ 64 ∧ x.bodies.length < x.queue then { x with bodies := x.bodies ++ [b] } else x
def sendE (b : ByteArray) : Int := if 64 < b.size then 90 else if x.queue ≤ x.bodies.length then 91 else 0
def most : Nat := min x.window x.bodies.length
def data (i : Nat) : Fr := ⟨1, x.epoch, u (x.first + (i : Int)), x.want, x.bodies.getD i ⟨#[]⟩⟩
def datas : List Fr := (List.range' x.out (x.most - x.out)).map x.data
def acks : List Fr := if x.most ≤ x.out ∧ x.owes = true then [⟨2, x.epoch, 0, x.want, ⟨#[]⟩⟩] else []
def goes : List Fr := x.datas ++ x.acks
def gone : LE := { x with out := x.most, ever := x.most, owes := false }
def ticked : LE := if x.out = 0 then x else if x.wait ≤ x.age + 1 then { x with out := 0, age := 0 } else { x with age := x.age + 1 }
def came (k : Nat) : LE := { x with bodies := x.bodies.drop k, first := u (x.first + (k : Int)), out := x.out - k, ever := x.ever - k, age := 0 }
def step (f : Fr) : Int := u (f.ack - x.first)
def acked (f : Fr) : LE := if 0 < x.step f ∧ x.step f ≤ (x.ever : Int) then x.came (x.step f).toNat else x
def owed : LE := { x with owes := true }
def fits (f : Fr) : Bool := f.right && decide (f.epoch = x.epoch)
def isNext (f : Fr) : Bool := x.fits f && decide (f.kind = 1) && decide (f.seq = x.want)
def taken (f : Fr) : LE :=
  if x.fits f then (if f.kind = 1 then (if f.seq = x.want then { (x.acked f).owed with want := u (x.want + 1) } else (x.acked f).owed) else x.acked f) else x
def told (f : Fr) : ByteArray := if x.isNext f then f.body else ⟨#[]⟩
variable {x}
theorem Ok.sent (h : x.Ok) (b : ByteArray) : (x.sent b).Ok := by
  unfold LE.sent
  by_cases c : b.size ≤ 64 ∧ x.bodies.length < x.queue
  · rw [if_pos c]
    have := h.el
    exact ⟨h.w1, h.w8, h.q64, h.t1, h.t100, by simp; omega, h.oe, h.ew, by simp; omega, h.age, h.fu, h.wu⟩
  · rw [if_neg c]; exact h
theorem Ok.out_most (h : x.Ok) : x.out ≤ x.most := by have := h.oe; have := h.ew; have := h.el; unfold most; omega
theorem Ok.gone (h : x.Ok) : x.gone.Ok :=
  ⟨h.w1, h.w8, h.q64, h.t1, h.t100, h.len, Nat.le_refl _, by simp only [LE.gone, most]; omega, by simp only [LE.gone, most]; omega, h.age, h.fu, h.wu⟩
theorem Ok.ticked (h : x.Ok) : x.ticked.Ok := by
  have h1 := h.t1
  unfold LE.ticked
  by_cases c : x.out = 0
  · rw [if_pos c]; exact h
  · rw [if_neg c]
    by_cases d : x.wait ≤ x.age + 1
    · rw [if_pos d]; exact ⟨h.w1, h.w8, h.q64, h.t1, h.t100, h.len, Nat.zero_le _, h.ew, h.el, h.t1, h.fu, h.wu⟩
    · rw [if_neg d]; exact ⟨h.w1, h.w8, h.q64, h.t1, h.t100, h.len, h.oe, h.ew, h.el, by show x.age + 1 < x.wait; omega, h.fu, h.wu⟩
theorem Ok.came (h : x.Ok) {k : Nat} (hk : k ≤ x.ever) : (x.came k).Ok := by
  have := h.el; have := h.oe; have := h.ew; have := h.len
  refine ⟨h.w1, h.w8, h.q64, h.t1, h.t100, ?_, ?_, ?_, ?_, h.t1, u_idem _, h.wu⟩ <;> simp only [LE.came, List.length_drop] <;> omega
theorem Ok.acked (h : x.Ok) (f : Fr) : (x.acked f).Ok := by
  unfold LE.acked
  by_cases c : 0 < x.step f ∧ x.step f ≤ (x.ever : Int)
  · rw [if_pos c]; exact h.came (by omega)
  · rw [if_neg c]; exact h
theorem Ok.owed (h : x.Ok) : x.owed.Ok := ⟨h.w1, h.w8, h.q64, h.t1, h.t100, h.len, h.oe, h.ew, h.el, h.age, h.fu, h.wu⟩
theorem acked_want (f : Fr) : (x.acked f).want = x.want := by unfold LE.acked; split <;> rfl
theorem acked_epoch (f : Fr) : (x.acked f).epoch = x.epoch := by unfold LE.acked; split <;> rfl
theorem acked_window (f : Fr) : (x.acked f).window = x.window := by unfold LE.acked; split <;> rfl
theorem acked_queue (f : Fr) : (x.acked f).queue = x.queue := by unfold LE.acked; split <;> rfl
theorem acked_wait (f : Fr) : (x.acked f).wait = x.wait := by unfold LE.acked; split <;> rfl
theorem Ok.taken (h : x.Ok) (f : Fr) : (x.taken f).Ok := by
  unfold LE.taken
  cases x.fits f
  · exact h
  · rw [if_pos rfl]
    by_cases c : f.kind = 1
    · rw [if_pos c]
      by_cases d : f.seq = x.want
      · rw [if_pos d]
        have k := (h.acked f).owed
        exact ⟨k.w1, k.w8, k.q64, k.t1, k.t100, k.len, k.oe, k.ew, k.el, k.age, k.fu, u_idem _⟩
      · rw [if_neg d]; exact (h.acked f).owed
    · rw [if_neg c]; exact h.acked f
end LE
end Go.Proofs.YtihhflajkohibaaGreatDoor.Link
