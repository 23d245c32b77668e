/- Layer 9: what many acts of two ends keep; begins; the two ends at the start. Conditions: those of each lemma. -/
import Derived.Test.YtblaanohidldpaaLinkPlay
namespace Go.Proofs.Ytblaanohidldpaa.Link
set_option linter.unusedSimpArgs false
set_option linter.unusedVariables false
open Go.RowKit
/-- the two ends as a pair -/
def PairT (f0 : Int) (t : T2) : Prop := Pair f0 (t.e false) (t.e true) (t.s false) (t.s true) (t.g false) (t.g true) (t.o false) (t.o true)
section
variable {f0 : Int} {t : T2}
theorem PairT.send (h : PairT f0 t) (me : Bool) (b : ByteArray) (hl : ∀ c, (t.s c).length < 500) : PairT f0 (t.send me b) := by
  cases me
  · exact Pair.sent h b (hl false)
  · exact ((Pair.symm h).sent b (hl true)).symm
theorem PairT.out (h : PairT f0 t) (me : Bool) : PairT f0 (t.out me) := by
  cases me
  · exact Pair.gone h
  · exact ((Pair.symm h).gone).symm
theorem PairT.tick (h : PairT f0 t) (me : Bool) : PairT f0 (t.tick me) := by
  cases me
  · exact Pair.ticked h
  · exact ((Pair.symm h).ticked).symm
theorem PairT.take (h : PairT f0 t) (me : Bool) {f : Fr} (hf : f ∈ t.o (!me)) : PairT f0 (t.take me f) := by
  cases me
  · exact Pair.taken h hf
  · exact ((Pair.symm h).taken hf).symm
theorem PairT.play (h : PairT f0 t) (a : Act9) (hl : ∀ c, (t.s c).length < 500) : PairT f0 (t.play a) := by
  unfold T2.play
  split
  · exact h.send _ _ hl
  · split
    · exact h.out _
    · split
      · exact h.tick _
      · split
        · exact h.take _ (List.getElem_mem _)
        · exact h
/-- none of the rows grows by more than nine -/
structure Short2 (t : T2) (k : Nat) : Prop where
  o : ∀ b, (t.o b).length ≤ 1001 * k
  s : ∀ b, (t.s b).length ≤ k
  g : ∀ b, (t.g b).length ≤ k
theorem up_len {α : Type} (f : Bool → List α) (me : Bool) (l : List α) (n : Nat) (h : ∀ b, (f b).length ≤ n) (hl : l.length ≤ n) : ∀ b, (upB f me l b).length ≤ n := by
  intro b; unfold upB; split
  · exact hl
  · exact h b
theorem Short2.up {k : Nat} (h : Short2 t k) : Short2 t (k + 1) := ⟨fun b => Nat.le_trans (h.o b) (by omega), fun b => Nat.le_trans (h.s b) (by omega), fun b => Nat.le_trans (h.g b) (by omega)⟩
theorem Short2.play {k : Nat} (h : Short2 t k) (hok : ∀ b, (t.e b).Ok) (a : Act9) : Short2 (t.play a) (k + 1) := by
  have h1 := h.up
  unfold T2.play
  split
  · exact ⟨h1.o, up_len _ _ _ _ h1.s (by split <;> (try rw [List.length_append]) <;> (have := h.s a.side; simp; omega)), h1.g⟩
  · split
    · refine ⟨up_len _ _ _ _ h1.o ?_, h1.s, h1.g⟩
      rw [List.length_append]
      have := h.o a.side
      have := goes_le (hok a.side)
      omega
    · split
      · exact ⟨h1.o, h1.s, h1.g⟩
      · split
        · exact ⟨h1.o, h1.s, up_len _ _ _ _ h1.g (by split <;> (try rw [List.length_append]) <;> (have := h.g a.side; simp; omega))⟩
        · exact h1
theorem PairT.ok (h : PairT f0 t) : ∀ b, (t.e b).Ok := fun b => by
  cases b
  · exact Pair.okx h
  · exact Pair.oky h
theorem PairT.law (h : PairT f0 t) (me : Bool) : t.g (!me) = (t.s me).take (t.g (!me)).length ∧ (t.g (!me)).length ≤ (t.s me).length ∧ (t.e me).bodies.length ≤ (t.s me).length ∧ (t.s me).length - (t.e me).bodies.length ≤ (t.g (!me)).length := by
  cases me
  · exact (Pair.fwd h).law (Pair.okx h)
  · exact (Pair.back h).law (Pair.oky h)
end
theorem vec_take {w : World} {F : List Nat} {A : Option Addr} {n c k : Nat} {cs : List Value} (h : Vec w F 1 A n c cs) (hk : k ≤ n) : Vec w F 1 A k c (cs.take k) := by
  have hl := h.len
  refine ⟨by rw [List.length_take]; omega, Nat.le_trans hk h.le, h.max, h.place.imp id ?_⟩
  rintro ⟨g, off, rfl, rfl, hg, hr, ht⟩
  refine ⟨g, off, rfl, rfl, hg, fun j v hj => ?_, ht⟩
  rw [List.getElem?_take] at hj
  split at hj
  · exact hr j v hj
  · cases hj
set_option maxHeartbeats 2000000 in
theorem begins_is {w : World} {Fa Fb : List Nat} {A B : Option Addr} {c d : Nat} {xs ys : List ByteArray} (ha : Vec w Fa 1 A xs.length c (xs.map .string)) (hb : Vec w Fb 1 B ys.length d (ys.map .string)) (hl : xs.length ≤ ys.length) (hx : xs = ys.take xs.length) (hbig : ys.length ≤ 100000) :
    Calls Try.prog 25 #[.slice A xs.length c, .slice B ys.length d] w fun e w' => e = .returned (.bool true) ∧ ∃ n, w' = w.drewN n := by
  have hb2 := vec_take hb hl
  have hd := hb.le
  rw [← List.map_take, ← hx] at hb2
  have HA := Lib.hid ha
  have HB := Lib.hid hb2
  have hd1 : decide (xs.length ≤ ys.length) = true := by simpa using hl
  have i1 : (xs.length : Int) ≤ (d : Int) := by omega
  have i0 : (0 : Int) ≤ (xs.length : Int) := by omega
  clear ha hb hb2 hx
  go_enter Try.func25, Try.ntmps25
  go_wp2_with fail
  refine (texts_is HA.out HB.out (by omega)).mono ?_
  rintro e w1 ⟨rfl, n, rfl⟩
  go_wp2_with fail
  go_ret
  exact ⟨rfl, n, rfl⟩
/-- the two ends at the start -/
def t0 (x : LE) : T2 := ⟨fun _ => x, fun _ => [], fun _ => [], fun _ => []⟩
def m0 (p q : Nat) : Mem2 := ⟨fun b => if b then q else p, fun b => if b then [q] else [p], fun _ => ⟨none, 0, []⟩, fun _ => ⟨none, 0, []⟩, fun _ => ⟨none, 0, []⟩⟩
theorem lay_start {B b p q : Nat} {x : LE} {w : World} (hp : EndIs w p [p] x) (hq : EndIs w q [q] x) (hpq : p ≠ q) (hbp : b ≠ p) (hbq : b ≠ q) (hB : B ≤ b ∧ B ≤ p ∧ B ≤ q) (hbx : w.heap[b]? = some (.cells ((m0 p q).cells (t0 x)) 60 (0, 0))) :
    Lay B (m0 p q) (t0 x) [boxT b ((m0 p q).cells (t0 x)) 60] w := by
  have nl : ∀ size, Vec w [] size none 0 0 [] := fun size => Vec.nil w size
  refine .cons _ _ hp (endT_local _ _ _) (fun k hk => by simp [endT, m0] at hk; omega) (fun m hm k hk hkm => ?_) (.cons _ _ hq (endT_local _ _ _) (fun k hk => by simp [endT, m0] at hk; omega) (fun m hm k hk hkm => ?_)
    (.cons _ _ (nl 5) (vecT_local _ _ _ _ _ _) (fun k hk => by simp [frT, vecT, m0] at hk) (fun m hm k hk => by simp [frT, vecT, m0] at hk) (.cons _ _ (nl 5) (vecT_local _ _ _ _ _ _) (fun k hk => by simp [frT, vecT, m0] at hk) (fun m hm k hk => by simp [frT, vecT, m0] at hk)
    (.cons _ _ (nl 1) (vecT_local _ _ _ _ _ _) (fun k hk => by simp [txT, vecT, m0] at hk) (fun m hm k hk => by simp [txT, vecT, m0] at hk) (.cons _ _ (nl 1) (vecT_local _ _ _ _ _ _) (fun k hk => by simp [txT, vecT, m0] at hk) (fun m hm k hk => by simp [txT, vecT, m0] at hk)
    (.cons _ _ (nl 1) (vecT_local _ _ _ _ _ _) (fun k hk => by simp [txT, vecT, m0] at hk) (fun m hm k hk => by simp [txT, vecT, m0] at hk) (.cons _ _ (nl 1) (vecT_local _ _ _ _ _ _) (fun k hk => by simp [txT, vecT, m0] at hk) (fun m hm k hk => by simp [txT, vecT, m0] at hk)
    (.cons _ _ hbx (boxT_local _ _ _) (fun k hk => by simp [boxT] at hk; omega) (fun m hm => by simp at hm) .nil))))))))
  · simp [endT, m0] at hk
    subst hk
    simp [endT, frT, txT, vecT, boxT, m0] at hm
    rcases hm with rfl | rfl | rfl | rfl | rfl | rfl | rfl | rfl <;> simp at hkm <;> omega
  · simp [endT, m0] at hk
    subst hk
    simp [endT, frT, txT, vecT, boxT, m0] at hm
    rcases hm with rfl | rfl | rfl | rfl | rfl | rfl | rfl <;> simp at hkm <;> omega
end Go.Proofs.Ytblaanohidldpaa.Link
