/- Layer 10, plain: two ends of a link and a net between them: what each act makes of them. No function of the program. -/
import Derived.Test.YtihhflajkohibaaGreatDoorFramePlain
import Derived.Test.YtihhflajkohibaaGreatDoorLinkAll
import Derived.Test.YtihhflajkohibaaGreatDoorNetPlain
namespace Go.Proofs.YtihhflajkohibaaGreatDoor.Pipe
set_option linter.unusedSimpArgs false
set_option linter.unusedVariables false
set_option maxRecDepth 100000
open Go.Proofs.YtihhflajkohibaaGreatDoor.Link (LE Fr)
open Go.Proofs.YtihhflajkohibaaGreatDoor.Net (NS)
def up {α : Type} (f : Bool → α) (b : Bool) (x : α) : Bool → α := fun c => if c = b then x else f c
theorem up_same {α : Type} (f : Bool → α) (b : Bool) (x : α) : up f b x b = x := by simp [up]
theorem up_other {α : Type} (f : Bool → α) (b : Bool) (x : α) : up f b x (!b) = f (!b) := by cases b <;> simp [up]
theorem up_id {α : Type} (f : Bool → α) (b : Bool) : up f b (f b) = f := by
  funext c; unfold up; split
  · next h => rw [h]
  · rfl
theorem up_up {α : Type} (f : Bool → α) (b : Bool) (x y : α) : up (up f b x) b y = up f b y := by
  funext c; unfold up; split <;> rfl
theorem up_all {α : Type} {P : α → Prop} (f : Bool → α) (b : Bool) (x : α) (h : ∀ c, P (f c)) (hx : P x) : ∀ c, P (up f b x c) := by
  intro c; unfold up; split
  · exact hx
  · exact h c
/-- the number of a side -/
def no (b : Bool) : Int := ((b.toNat : Nat) : Int)
theorem no_nat (me : Bool) : ∃ m r : Nat, me.toNat = m ∧ (!me).toNat = r ∧ no me = (m : Int) ∧ no (!me) = (r : Int) ∧ m < 2 ∧ r < 2 ∧ 1 - (m : Int) = (r : Int) := by
  cases me
  · exact ⟨0, 1, rfl, rfl, rfl, rfl, by omega, by omega, by omega⟩
  · exact ⟨1, 0, rfl, rfl, rfl, rfl, by omega, by omega, by omega⟩
theorem side_of {n : Int} (h : n = 0 ∨ n = 1) : ∃ me : Bool, n = no me := by
  rcases h with rfl | rfl
  · exact ⟨false, rfl⟩
  · exact ⟨true, rfl⟩
/-- two ends, what each was told, and a net -/
structure PS where
  e : Bool → LE
  g : Bool → List ByteArray
  n : NS
def bytes (f : Fr) : ByteArray := ⟨(Frame.put f).toArray⟩
def new (epoch first window queue wait room : Int) : PS := ⟨fun _ => Link.new epoch first window queue wait, fun _ => [], Net.new 2 room⟩
/-- a frame goes on its way from a side -/
def way (a b : Int) (w : NS × Nat) (f : Fr) : NS × Nat := if f.right = true then (w.1.send a b (bytes f), if w.1.sendOk a b = true then w.2 + 1 else w.2) else w
def ways (a b : Int) (w : NS × Nat) (l : List Fr) : NS × Nat := l.foldl (way a b) w
theorem ways_snoc (a b : Int) (w : NS × Nat) (l : List Fr) (f : Fr) : ways a b w (l ++ [f]) = way a b (ways a b w l) f := by simp [ways]
theorem ways_step (a b : Int) (w : NS × Nat) (l : List Fr) {k : Nat} {f : Fr} (h : l[k]? = some f) : ways a b w (l.take (k + 1)) = way a b (ways a b w (l.take k)) f := by
  rw [List.take_add_one, h, ← ways_snoc]; rfl
namespace PS
variable (s : PS) (me : Bool)
def send (b : ByteArray) : PS := { s with e := up s.e me ((s.e me).sent b) }
def tick : PS := { s with e := up s.e me (s.e me).ticked }
def gone : NS × Nat := ways (no me) (no (!me)) (s.n, 0) (s.e me).goes
def go : PS := { s with e := up s.e me (s.e me).gone, n := (s.gone me).1 }
def has (k : Int) : Bool := s.n.isAt (no (!me)) (no me) k
def look (k : Int) : ByteArray := s.n.look (no (!me)) (no me) k
def lose (k : Int) : PS := { s with n := s.n.deliver (no (!me)) (no me) k }
def double (k : Int) : PS := { s with n := s.n.double (no (!me)) (no me) k }
def doubleOk (k : Int) : Bool := s.n.doubleOk (no (!me)) (no me) k
def flip (k bit : Int) : PS := { s with n := s.n.flip (no (!me)) (no me) k bit }
def flipOk (k : Int) : Bool := s.n.flipOk (no (!me)) (no me) k
/-- an end takes a frame -/
def take (f : Fr) : PS := { s with e := up s.e me ((s.e me).taken f), g := up s.g me (if (s.e me).isNext f then s.g me ++ [(s.e me).told f] else s.g me) }
def frameB (k : Int) : Bool := s.has me k && decide ((Frame.why (s.look me k).data.toList).2 = 0)
def frame (k : Int) : Fr := Frame.get (s.look me k).data.toList
def come (k : Int) : PS := if s.frameB me k then (s.lose me k).take me (s.frame me k) else s.lose me k
def comeS (k : Int) : ByteArray := if s.frameB me k then (s.e me).told (s.frame me k) else ⟨#[]⟩
def comeB (k : Int) : Bool := s.frameB me k && (s.e me).isNext (s.frame me k)
end PS
/-- all that is on its way is short -/
def Short (n : NS) : Prop := ∀ a b t, t ∈ n.f a b → t.size ≤ 100
theorem Short.set {n : NS} (h : Short n) (a b : Int) (l : List ByteArray) (hl : ∀ t, t ∈ l → t.size ≤ 100) : Short (n.set a b l) := by
  intro x y t ht
  unfold NS.set at ht
  simp only at ht
  split at ht
  · exact hl t ht
  · exact h x y t ht
theorem bytes_size (f : Fr) (hr : f.right = true) : (bytes f).size = 27 + f.body.size ∧ (bytes f).size ≤ 91 := by
  have h := Frame.put_length f
  have hb := (Frame.right_iff.1 hr).2.2.1
  have e : (bytes f).size = (Frame.put f).length := by unfold bytes; exact List.size_toArray
  omega
theorem Short.send {n : NS} (h : Short n) (a b : Int) (t : ByteArray) (ht : t.size ≤ 100) : Short (n.send a b t) := by
  unfold NS.send
  split
  · refine h.set a b _ fun u hu => ?_
    rcases List.mem_append.1 hu with hu | hu
    · exact h a b u hu
    · rw [List.mem_singleton.1 hu]; exact ht
  · exact h
theorem Short.way {w : NS × Nat} (h : Short w.1) (a b : Int) (f : Fr) : Short (way a b w f).1 := by
  unfold Pipe.way
  split
  · next hr => exact h.send a b _ (by have := (bytes_size f hr).2; omega)
  · exact h
theorem Short.ways {a b : Int} {l : List Fr} : ∀ {w : NS × Nat}, Short w.1 → Short (ways a b w l).1 := by
  induction l with
  | nil => intro w h; exact h
  | cons f l ih => intro w h; exact ih (h.way a b f)
theorem Short.deliver {n : NS} (h : Short n) (a b k : Int) : Short (n.deliver a b k) := by
  unfold NS.deliver
  split
  · exact h.set a b _ fun t ht => h a b t (List.mem_of_mem_eraseIdx ht)
  · exact h
theorem look_mem {n : NS} {a b k : Int} (h : n.isAt a b k = true) : n.look a b k ∈ n.f a b := by
  unfold NS.look
  rw [if_pos h]
  unfold NS.isAt at h
  have h := of_decide_eq_true h
  rw [List.getD_eq_getElem?_getD, List.getElem?_eq_getElem (show k.toNat < (n.f a b).length by omega)]
  exact List.getElem_mem _
theorem Short.look {n : NS} (h : Short n) (a b k : Int) : (n.look a b k).size ≤ 100 := by
  cases hk : n.isAt a b k
  · unfold NS.look; rw [if_neg (by simp [hk])]; decide
  · exact h a b _ (look_mem hk)
theorem Short.double {n : NS} (h : Short n) (a b k : Int) : Short (n.double a b k) := by
  unfold NS.double
  split
  · exact h.send a b _ (h.look a b k)
  · exact h
theorem turn_size (t : ByteArray) (bit : Int) : (NS.turn t bit).size = t.size := by
  show (t.data.setIfInBounds _ _).size = t.data.size
  simp
theorem Short.flip {n : NS} (h : Short n) (a b k bit : Int) : Short (n.flip a b k bit) := by
  unfold NS.flip
  split
  · refine h.set a b _ fun t ht => ?_
    rcases List.mem_or_eq_of_mem_set ht with ht | rfl
    · exact h a b t ht
    · rw [turn_size]; exact h.look a b k
  · exact h
theorem new_short (n room : Int) : Short (Net.new n room) := fun a b t ht => by simp [Net.new] at ht
namespace PS
variable {s : PS} {me : Bool}
theorem short_go (h : Short s.n) : Short (s.go me).n := Short.ways h
theorem short_lose (h : Short s.n) (k : Int) : Short (s.lose me k).n := h.deliver _ _ _
theorem short_come (h : Short s.n) (k : Int) : Short (s.come me k).n := by
  unfold PS.come
  split
  · exact short_lose h k
  · exact short_lose h k
theorem short_double (h : Short s.n) (k : Int) : Short (s.double me k).n := h.double _ _ _
theorem short_flip (h : Short s.n) (k bit : Int) : Short (s.flip me k bit).n := h.flip _ _ _ _
end PS
/-- the numbers of frames that go out are numbers -/
theorem goes_fits {x : LE} (hx : x.Ok) {f : Fr} (hf : f ∈ x.goes) : Frame.Fits f := by
  have h1 : ∀ n : Int, 0 ≤ Link.u n ∧ Link.u n < 18446744073709551616 := fun n => by rw [Link.u_eq]; omega
  have hw := h1 x.want
  rw [hx.wu] at hw
  unfold LE.goes at hf
  rcases List.mem_append.1 hf with hf | hf
  · unfold LE.datas at hf
    obtain ⟨i, _, rfl⟩ := List.mem_map.1 hf
    exact ⟨(h1 _).1, (h1 _).2, hw.1, hw.2⟩
  · unfold LE.acks at hf
    split at hf
    · simp at hf; subst hf
      exact ⟨Int.le_refl _, by show (0 : Int) < _; omega, hw.1, hw.2⟩
    · cases hf
end Go.Proofs.YtihhflajkohibaaGreatDoor.Pipe
