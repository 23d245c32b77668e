/- Things in memory, apart from each other: each with the blocks that it stands in. Plain facts on worlds; no function of the program. -/
import Derived.Test.YtihhflajkohibaaGreatDoorVec
namespace Go.Proofs.YtihhflajkohibaaGreatDoor
set_option linter.unusedSimpArgs false
set_option linter.unusedVariables false
set_option maxRecDepth 100000
open Go.RowKit

/-- a thing in memory: what holds of the world, and the blocks of which it speaks -/
structure Thing where
  P : World → Prop
  F : List Nat
structure Thing.Local (o : Thing) : Prop where
  lt : ∀ w, o.P w → ∀ k, k ∈ o.F → k < w.heap.size
  keep : ∀ w w', o.P w → w.heap.size ≤ w'.heap.size → (∀ k, k ∈ o.F → w'.heap[k]? = w.heap[k]?) → o.P w'
/-- all of them hold, apart from each other, in blocks that are new since a mark -/
inductive Sep (B : Nat) (w : World) : List Thing → Prop
  | nil : Sep B w []
  | cons (o : Thing) (l : List Thing) (h : o.P w) (loc : o.Local) (new : ∀ k, k ∈ o.F → B ≤ k) (ap : ∀ m, m ∈ l → ∀ k, k ∈ o.F → k ∉ m.F) (r : Sep B w l) : Sep B w (o :: l)
section
variable {B : Nat} {w w' : World} {l : List Thing} {o : Thing}
theorem Sep.all (h : Sep B w l) : ∀ o, o ∈ l → o.P w ∧ o.Local ∧ ∀ k, k ∈ o.F → B ≤ k := by
  induction h with
  | nil => intro o h; cases h
  | cons o l h loc new ap r ih =>
    intro m hm
    rcases List.mem_cons.1 hm with rfl | hm
    · exact ⟨h, loc, new⟩
    · exact ih m hm
theorem Sep.at (h : Sep B w l) (i : Nat) (hi : l[i]? = some o) : o.P w := (h.all o (List.mem_of_getElem? hi)).1
theorem Sep.lt (h : Sep B w l) (hm : o ∈ l) {k : Nat} (hk : k ∈ o.F) : k < w.heap.size := by
  obtain ⟨h1, h2, _⟩ := h.all o hm
  exact h2.lt w h1 k hk
/-- where no block of theirs is touched -/
theorem Sep.keep (h : Sep B w l) (hs : w.heap.size ≤ w'.heap.size) (hb : ∀ o, o ∈ l → ∀ k, k ∈ o.F → w'.heap[k]? = w.heap[k]?) : Sep B w' l := by
  induction h with
  | nil => exact .nil
  | cons o l h loc new ap r ih => exact .cons o l (loc.keep w w' h hs (hb o (by simp))) loc new ap (ih fun m hm => hb m (by simp [hm]))
theorem Sep.after (h : Sep B w l) (hb : Below w.heap.size w w') : Sep B w' l := h.keep hb.size fun _ hm k hk => hb.block k (h.lt hm hk)
theorem Sep.kept {L : List Nat} (h : Sep B w l) (hk : Kept L w w') (hL : ∀ o, o ∈ l → ∀ k, k ∈ o.F → k ∉ L) : Sep B w' l := h.keep hk.size fun o hm k hko => hk.block k (h.lt hm hko) (hL o hm k hko)
theorem Sep.drewN (h : Sep B w l) (n : Nat) : Sep B (w.drewN n) l := h.keep (Nat.le_refl _) fun _ _ _ _ => rfl
theorem Sep.drew (h : Sep B w l) : Sep B w.drew l := h.keep (Nat.le_refl _) fun _ _ _ _ => rfl
theorem Sep.alloc (h : Sep B w l) (x : Obj) : Sep B (w.alloc x) l := h.keep (by simp) fun _ hm k hk => Below.heap_alloc w x k (h.lt hm hk)
theorem Sep.setCell (h : Sep B w l) {p : Addr} (hp : ∀ o, o ∈ l → p.block ∉ o.F) (u : Value) : Sep B (w.setCell p u) l :=
  h.keep (by simp [World.setCell]) fun o hm k hk => Below.heap_setCell w p u k (by rintro rfl; exact hp o hm hk)
/-- one of them turns to another one -/
theorem Sep.turn (h : Sep B w l) (hB : B ≤ w.heap.size) (i : Nat) (hi : l[i]? = some o) {o' : Thing} (h' : o'.P w') (loc' : o'.Local) (ht : Turns o.F o'.F w w') : Sep B w' (l.set i o') := by
  have hnew : ∀ k, k ∈ o'.F → k ∈ o.F ∨ w.heap.size ≤ k := ht.new
  induction h generalizing i with
  | nil => simp at hi
  | cons m l hm loc new ap r ih =>
    cases i with
    | zero =>
      simp only [List.getElem?_cons_zero, Option.some.injEq] at hi
      subst hi
      rw [List.set_cons_zero]
      refine .cons o' l h' loc' (fun k hk => (hnew k hk).elim (new k) (fun h => Nat.le_trans hB h)) (fun n hn k hk hkn => (hnew k hk).elim (fun h1 => ap n hn k h1 hkn) (fun h1 => by have := r.lt hn hkn; omega)) ?_
      exact r.kept ht.kept fun n hn k hk hkm => ap n hn k hkm hk
    | succ i =>
      rw [List.set_cons_succ]
      have hi' : l[i]? = some o := by simpa using hi
      have hmem := List.mem_of_getElem? hi'
      refine .cons m _ ?_ loc new ?_ (ih i hi')
      · exact loc.keep w w' hm ht.kept.size fun k hk => ht.kept.block k (loc.lt w hm k hk) (ap o hmem k hk)
      · intro n hn k hk hkn
        rcases List.mem_or_eq_of_mem_set hn with hn | rfl
        · exact ap n hn k hk hkn
        · rcases hnew k hkn with h1 | h1
          · exact ap o hmem k hk h1
          · have := loc.lt w hm k hk; omega
theorem Sep.under {F' : List Nat} (h : Sep B w l) (hB : B ≤ w.heap.size) (hm : o ∈ l) (ht : Turns o.F F' w w') : Below B w w' := (ht.below (B := B) hB (h.all o hm).2.2).1
/-- one more, in new blocks -/
theorem Sep.more (h : Sep B w l) (hB : B ≤ w.heap.size) (hb : Below w.heap.size w w') (h' : o.P w') (loc : o.Local) (hn : ∀ k, k ∈ o.F → w.heap.size ≤ k) : Sep B w' (o :: l) :=
  .cons o l h' loc (fun k hk => Nat.le_trans hB (hn k hk)) (fun m hm k hk hkm => by have := hn k hk; have := h.lt hm hkm; omega) (h.after hb)
theorem Sep.swap {m : Thing} (h : Sep B w (o :: m :: l)) : Sep B w (m :: o :: l) := by
  cases h with
  | cons _ _ h1 loc1 n1 ap1 r1 =>
    cases r1 with
    | cons _ _ h2 loc2 n2 ap2 r2 =>
      refine .cons m _ h2 loc2 n2 (fun n hn k hk hkn => ?_) (.cons o l h1 loc1 n1 (fun n hn => ap1 n (by simp [hn])) r2)
      rcases List.mem_cons.1 hn with rfl | hn
      · exact ap1 m (by simp) k hkn hk
      · exact ap2 n hn k hk hkn
theorem Sep.tail (h : Sep B w (o :: l)) : Sep B w l := by cases h; assumption
theorem Sep.perm {m : List Thing} (h : Sep B w l) (hp : l.Perm m) : Sep B w m := by
  induction hp with
  | nil => exact h
  | cons x hp ih =>
    rename_i l1 l2
    cases h with
    | cons _ _ h1 loc1 n1 ap1 r1 => exact .cons x l2 h1 loc1 n1 (fun n hn => ap1 n (hp.mem_iff.2 hn)) (ih r1)
  | swap x y l => exact h.swap
  | trans _ _ ih1 ih2 => exact ih2 (ih1 h)
end
/-- a slice of the call's own -/
def vecT (G : List Nat) (size : Nat) (A : Option Addr) (n c : Nat) (cs : List Value) : Thing := ⟨fun w => Vec w G size A n c cs, G⟩
theorem vecT_local (G : List Nat) (size : Nat) (A : Option Addr) (n c : Nat) (cs : List Value) : (vecT G size A n c cs).Local := ⟨fun _ h _ hk => Vec.lt h hk, fun _ _ h hs hb => Vec.keep h hs hb⟩
end Go.Proofs.YtihhflajkohibaaGreatDoor
