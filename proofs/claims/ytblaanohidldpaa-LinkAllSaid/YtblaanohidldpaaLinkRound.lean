/- Layer 9, plain: the rounds of LinkAll by side. No function of the program. -/
import Derived.Test.YtblaanohidldpaaLinkPlay2
namespace Go.Proofs.Ytblaanohidldpaa.Link
set_option linter.unusedSimpArgs false
set_option linter.unusedVariables false
theorem upB_upB {α : Type} (f : Bool → α) (b : Bool) (x y : α) : upB (upB f b x) b y = upB f b y := by
  funext c; unfold upB; split <;> rfl
theorem Comes_cons (s : LE × List ByteArray) (f : Fr) (l : List Fr) : comes s (f :: l) = comes (come s f) l := rfl
namespace T2
variable (t : T2) (me : Bool)
/-- an end takes so many frames -/
def takes (l : List Fr) : T2 := l.foldl (fun t f => t.take me f) t
theorem takes_snoc (l : List Fr) (f : Fr) : t.takes me (l ++ [f]) = (t.takes me l).take me f := by simp [takes]
theorem takes_is (l : List Fr) : ∀ t : T2, t.takes me l = { t with e := upB t.e me (comes (t.e me, t.g me) l).1, g := upB t.g me (comes (t.e me, t.g me) l).2 } := by
  induction l with
  | nil => intro t; show t = { t with e := upB t.e me (t.e me), g := upB t.g me (t.g me) }; rw [upB_id, upB_id]
  | cons f l ih =>
    intro t
    show (t.take me f).takes me l = _
    rw [ih, Comes_cons]
    unfold T2.take
    simp only [upB_upB, upB_same]
    rfl
/-- what goes out of an end -/
def leave : T2 := { t with e := upB t.e me (t.e me).gone }
/-- all that goes out of an end comes to the other one -/
def over : T2 := (t.leave me).takes (!me) (t.e me).goes
/-- time passes at both -/
def both : Nat → T2
  | 0 => t
  | n + 1 => ((T2.both n).tick false).tick true
theorem both_is : ∀ n, t.both n = { t with e := fun b => (t.e b).ticks n } := by
  intro n
  induction n with
  | zero => rfl
  | succ n ih =>
    show ((t.both n).tick false).tick true = _
    rw [ih]
    unfold T2.tick
    congr 1
    funext b
    cases b <;> rfl
def rnd : T2 := ((t.both 100).over false).over true
def st : St := ⟨t.e false, t.e true, t.g false, t.g true⟩
theorem rnd_st : t.rnd.st = round t.st := by
  unfold rnd over
  rw [takes_is, takes_is]
  unfold leave
  rw [both_is]
  unfold round
  generalize 100 = n
  rfl
theorem over_s : (t.over me).s = t.s := by
  unfold over
  rw [takes_is]
  rfl
theorem both_s (n : Nat) : (t.both n).s = t.s := by rw [both_is]
theorem rnd_s : t.rnd.s = t.s := by
  unfold rnd
  rw [over_s, over_s, both_s]
end T2
/-- what holds between two rounds -/
def RdT (f0 : Int) (t : T2) (r : Nat) : Prop := Rd f0 (t.s false) (t.s true) r t.st
theorem RdT.step {f0 : Int} {t : T2} {r : Nat} (h : RdT f0 t r) : RdT f0 t.rnd (r + 1) := by
  unfold RdT
  rw [T2.rnd_st, T2.rnd_s]
  exact Rd.step h
theorem RdT.law {f0 : Int} {t : T2} (h : RdT f0 t 66) : t.g true = t.s false ∧ t.g false = t.s true ∧ (t.e false).bodies = [] ∧ (t.e true).bodies = [] := Rd.law h
theorem RdT.start {f0 : Int} {t : T2} (h : PairT f0 t) (hs : ∀ b, (t.e b).Small) (he : (t.e true).epoch = (t.e false).epoch) : RdT f0 t 0 :=
  ⟨⟨_, _, h⟩, he, hs false, hs true, .inl (by have := h.ok false; have a := this.len; have b := this.q64; show (t.e false).bodies.length + 0 ≤ 64; omega), fun h => absurd h (by omega)⟩
/-- the ends' bodies stay small, their epochs are one -/
def Kin (t : T2) : Prop := ∀ b, (t.e b).Small ∧ (t.e b).epoch = 1
theorem Kin.up {t : T2} (h : Kin t) {me : Bool} {z : LE} {o : Bool → List Fr} {s g : Bool → List ByteArray} (hs : z.Small) (he : z.epoch = (t.e me).epoch) : Kin ⟨upB t.e me z, o, s, g⟩ := by
  intro b
  show (upB t.e me z b).Small ∧ (upB t.e me z b).epoch = 1
  unfold upB
  split
  · exact ⟨hs, he.trans (h me).2⟩
  · exact h b
theorem Small.sent {x : LE} (h : x.Small) (b : ByteArray) : (x.sent b).Small ∧ (x.sent b).epoch = x.epoch := by
  unfold LE.sent
  split
  · next c =>
    refine ⟨⟨h.1, h.2.1, fun u hu => ?_⟩, rfl⟩
    rcases List.mem_append.1 hu with hu | hu
    · exact h.2.2 u hu
    · rw [List.mem_singleton.1 hu]; exact c.1
  · exact ⟨h, rfl⟩
theorem Small.ticked {x : LE} (h : x.Small) : x.ticked.Small ∧ x.ticked.epoch = x.epoch := by
  unfold LE.ticked
  split
  · exact ⟨h, rfl⟩
  · split <;> exact ⟨h, rfl⟩
theorem Small.taken {x : LE} (h : x.Small) (f : Fr) : (x.taken f).Small ∧ (x.taken f).epoch = x.epoch := by
  obtain ⟨k1, _⟩ := taken_keep x f
  refine ⟨⟨by rw [k1]; exact h.1, by rw [k1]; exact h.2.1, fun u hu => ?_⟩, k1⟩
  cases hf : x.fits f
  · unfold LE.taken at hu
    rw [if_neg (by simp [hf])] at hu
    exact h.2.2 u hu
  · rw [(taken_is x f hf).1] at hu
    exact h.2.2 u ((came_sub x f).2.1 u hu)
theorem Kin.play {t : T2} (h : Kin t) (a : Act9) : Kin (t.play a) := by
  have hs := (h a.side).1
  unfold T2.play
  split
  · exact h.up (Small.sent hs _).1 (Small.sent hs _).2
  · split
    · exact h.up (z := (t.e a.side).gone) hs rfl
    · split
      · exact h.up (Small.ticked hs).1 (Small.ticked hs).2
      · split
        · exact h.up (Small.taken hs _).1 (Small.taken hs _).2
        · exact h
theorem Kin.start (window queue wait first : Int) : Kin (t0 (new 1 first window queue wait)) := fun _ => ⟨⟨by show (0 : Int) ≤ 1; omega, by show (1 : Int) ≤ 65535; omega, fun u hu => by simp [t0, new] at hu⟩, rfl⟩
theorem RdT.of {f0 : Int} {t : T2} (h : PairT f0 t) (hk : Kin t) : RdT f0 t 0 := RdT.start h (fun b => (hk b).1) ((hk true).2.trans (hk false).2.symm)
/-- none is told more than so many -/
theorem take_len (t : T2) (me : Bool) (f : Fr) (n : Nat) (h : ∀ b, (t.g b).length ≤ n) : ∀ b, ((t.take me f).g b).length ≤ n + 1 := by
  refine up_len _ _ _ _ (fun b => Nat.le_trans (h b) (by omega)) ?_
  have := h me
  split
  · rw [List.length_append]; simp; omega
  · omega
end Go.Proofs.Ytblaanohidldpaa.Link
