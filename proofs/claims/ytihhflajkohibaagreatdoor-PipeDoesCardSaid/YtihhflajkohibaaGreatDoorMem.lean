/- What a call keeps of memory: all blocks but those of a list; and a ring of things in memory. Plain facts on worlds; no function of the program. -/
import Derived.WalkKit
import Derived.Lib.Hide
import Derived.Deep.QuietTactic
import Derived.BigQuiet
import Derived.Deep.RegionHeld3
import Derived.Deep.AppendLies
import Derived.KernelRfl
namespace Go.Proofs.YtihhflajkohibaaGreatDoor
set_option linter.unusedSimpArgs false
set_option linter.unusedVariables false
set_option maxRecDepth 100000
open Go.RowKit

/-- all blocks that were there are as they were, but for those of the list -/
structure Kept (L : List Nat) (w w' : World) : Prop where
  os : w'.os = w.os
  tape : w'.tape = w.tape
  output : w'.output = w.output
  size : w.heap.size ≤ w'.heap.size
  block : ∀ k, k < w.heap.size → k ∉ L → w'.heap[k]? = w.heap[k]?

theorem Kept.refl (L : List Nat) (w : World) : Kept L w w := ⟨rfl, rfl, rfl, Nat.le_refl _, fun _ _ _ => rfl⟩
theorem Kept.trans {L : List Nat} {a b c : World} (h : Kept L a b) (k : Kept L b c) : Kept L a c :=
  ⟨k.os.trans h.os, k.tape.trans h.tape, k.output.trans h.output, Nat.le_trans h.size k.size,
    fun i hi hn => (k.block i (Nat.lt_of_lt_of_le hi h.size) hn).trans (h.block i hi hn)⟩
theorem Kept.drew {L : List Nat} {a w : World} (h : Kept L a w) : Kept L a w.drew := ⟨h.os, h.tape, h.output, h.size, h.block⟩
theorem Kept.drewN {L : List Nat} {a w : World} (h : Kept L a w) (n : Nat) : Kept L a (w.drewN n) := ⟨h.os, h.tape, h.output, h.size, h.block⟩
theorem Kept.mono {L L' : List Nat} {a w : World} (h : Kept L a w) (hl : ∀ x, x ∈ L → x ∈ L') : Kept L' a w :=
  ⟨h.os, h.tape, h.output, h.size, fun k hk hn => h.block k hk fun hm => hn (hl k hm)⟩
theorem Kept.alloc {L : List Nat} {a w : World} (h : Kept L a w) (o : Obj) : Kept L a (w.alloc o) :=
  ⟨h.os, h.tape, h.output, Nat.le_trans h.size (by simp), fun k hk hn => (Below.heap_alloc w o k (Nat.lt_of_lt_of_le hk h.size)).trans (h.block k hk hn)⟩
theorem Kept.setCell {L : List Nat} {a w : World} (h : Kept L a w) {p : Addr} (hp : p.block ∈ L ∨ a.heap.size ≤ p.block) (u : Value) : Kept L a (w.setCell p u) :=
  ⟨h.os, h.tape, h.output, by simpa [World.setCell] using h.size, fun k hk hn => (Below.heap_setCell w p u k (by
    rintro rfl
    rcases hp with hp | hp
    · exact hn hp
    · omega)).trans (h.block k hk hn)⟩
theorem Kept.of_below {w w' : World} (h : Below w.heap.size w w') (L : List Nat) : Kept L w w' := ⟨h.os, h.tape, h.output, h.size, fun k hk _ => h.block k hk⟩
theorem Kept.below {L : List Nat} {B : Nat} {a w : World} (h : Kept L a w) (hB : B ≤ a.heap.size) (hL : ∀ x, x ∈ L → B ≤ x) : Below B a w :=
  ⟨h.os, h.tape, h.output, h.size, fun k hk => h.block k (Nat.lt_of_lt_of_le hk hB) fun hm => by have := hL k hm; omega⟩
theorem Kept.heap {L : List Nat} {a w w' : World} (h : Kept L a w) (e : w'.heap = w.heap) (e1 : w'.os = w.os) (e2 : w'.tape = w.tape) (e3 : w'.output = w.output) : Kept L a w' :=
  ⟨e1.trans h.os, e2.trans h.tape, e3.trans h.output, by rw [e]; exact h.size, fun k hk hn => by rw [e]; exact h.block k hk hn⟩
theorem Kept.cell {L : List Nat} {w w' : World} (h : Kept L w w') {p : Addr} (hp : p.block < w.heap.size) (hn : p.block ∉ L) : w'.cell? p = w.cell? p := World.cell?_of_block (w := w) (h.block p.block hp hn)
theorem Kept.frozen {L : List Nat} {w w' : World} (h : Kept L w w') {p : Addr} (hp : p.block < w.heap.size) (hn : p.block ∉ L) : w'.frozen? p = w.frozen? p := World.frozen?_of_block (w := w) (h.block p.block hp hn)
theorem Kept.drewR {L : List Nat} {a w : World} (h : Kept L a.drew w) : Kept L a w := ⟨h.os, h.tape, h.output, h.size, h.block⟩
theorem below_drewN {B : Nat} {a w : World} (h : Below B a w) (n : Nat) : Below B a (w.drewN n) := ⟨h.os, h.tape, h.output, h.size, h.block⟩
theorem of_drew {w w' : World} (h : Below w.drew.heap.size w.drew w') : Below w.heap.size w w' := ⟨h.os, h.tape, h.output, h.size, h.block⟩

theorem Kept.after {L : List Nat} {a w w' : World} (h : Below a.heap.size a w) (hk : Kept L w w') (hL : ∀ x, x ∈ L → a.heap.size ≤ x) : Below a.heap.size a w' :=
  h.trans (hk.below h.size hL)
theorem lt_of_block {w : World} {k : Nat} {o : Obj} (h : w.heap[k]? = some o) : k < w.heap.size := by
  rcases Nat.lt_or_ge k w.heap.size with hlt | hge
  · exact hlt
  · rw [Array.getElem?_eq_none hge] at h; cases h
theorem cell_of_block {w : World} {g : Nat} {cs : Array Value} {t : TypeId} (h : w.heap[g]? = some (.cells cs t (0, 0))) (i : Nat) : w.cell? ⟨g, i, none⟩ = cs[i]? := cell_of_row w g i cs t (0, 0) h
theorem frozen_of_block {w : World} {g : Nat} {cs : Array Value} {t : TypeId} (h : w.heap[g]? = some (.cells cs t (0, 0))) (i : Nat) : w.frozen? ⟨g, i, none⟩ = false := by
  simp [World.frozen?, h]
theorem set_block {w : World} {g : Nat} {cs : Array Value} {t : TypeId} (h : w.heap[g]? = some (.cells cs t (0, 0))) (i : Nat) (u : Value) :
    (w.setCell ⟨g, i, none⟩ u).heap[g]? = some (.cells (cs.setIfInBounds i u) t (0, 0)) := by
  simp [World.setCell, Array.getElem?_modify, h]
theorem set_other {w : World} {g : Nat} {p : Addr} (hne : g ≠ p.block) (u : Value) : (w.setCell p u).heap[g]? = w.heap[g]? := Below.heap_setCell w p u g hne

theorem cell_far {w : World} {p q i k : Nat} (h : p ≠ q) (u : Value) : (w.setCell ⟨q, k, none⟩ u).cell? ⟨p, i, none⟩ = w.cell? ⟨p, i, none⟩ :=
  World.cell?_setCell_other w _ _ _ (by intro e; injection e with e; exact h e.symm)
theorem cell_next {w : World} {q i k : Nat} (h : i ≠ k) (u : Value) : (w.setCell ⟨q, k, none⟩ u).cell? ⟨q, i, none⟩ = w.cell? ⟨q, i, none⟩ :=
  World.cell?_setCell_other w _ _ _ (by intro e; injection e with _ e; exact h e.symm)
theorem own_far {w : World} {base : Nat} {e : TypeId} {size n g : Nat} {v : Value} {xs : List Value} (h : w.ownsRow base e size v n xs) (hg : g < base) : v.ownBlock ≠ some g := by
  rcases h.2 with ⟨rfl, _⟩ | ⟨g', _, _, rfl, hb, _⟩
  · simp [Value.ownBlock]
  · simp only [Value.ownBlock, ne_eq, Option.some.injEq]; omega
theorem own_base {w : World} {base : Nat} {e : TypeId} {size n g : Nat} {v : Value} {xs : List Value} (h : w.ownsRow base e size v n xs) (hg : v.ownBlock = some g) : base ≤ g := by
  rcases h.2 with ⟨rfl, _⟩ | ⟨g', _, _, rfl, hb, _⟩
  · simp [Value.ownBlock] at hg
  · simp only [Value.ownBlock, Option.some.injEq] at hg; omega
/-- a ring of things in memory: its struct lies in block p, its row in block q, with room for m -/
structure RingIs {α : Type} (mk : α → Value) (tS tE : TypeId) (w : World) (p q m b : Nat) (C : Array Value) (xs : List α) : Prop where
  st : w.heap[p]? = some (.cells #[.slice (some ⟨q, 0, none⟩) m m, .int .i64 (b : Int), .int .i64 (xs.length : Int)] tS (0, 0))
  row : w.heap[q]? = some (.cells C tE (0, 0))
  size : C.size = m
  ne : p ≠ q
  cap : xs.length ≤ m
  beg : b < m ∨ (m = 0 ∧ b = 0)
  at_ : ∀ i (h : i < xs.length), C[(b + i) % m]? = some (mk xs[i])
  mle : m ≤ 1000

section
variable {α : Type} {mk : α → Value} {tS tE : TypeId} {w w' : World} {p q m b : Nat} {C : Array Value} {xs : List α}
theorem RingIs.keep (h : RingIs mk tS tE w p q m b C xs) (hp : w'.heap[p]? = w.heap[p]?) (hq : w'.heap[q]? = w.heap[q]?) : RingIs mk tS tE w' p q m b C xs :=
  ⟨hp.trans h.st, hq.trans h.row, h.size, h.ne, h.cap, h.beg, h.at_, h.mle⟩
theorem RingIs.p_lt (h : RingIs mk tS tE w p q m b C xs) : p < w.heap.size := lt_of_block h.st
theorem RingIs.q_lt (h : RingIs mk tS tE w p q m b C xs) : q < w.heap.size := lt_of_block h.row
theorem RingIs.kept {L : List Nat} (h : RingIs mk tS tE w p q m b C xs) (hk : Kept L w w') (hp : p ∉ L) (hq : q ∉ L) : RingIs mk tS tE w' p q m b C xs :=
  h.keep (hk.block p h.p_lt hp) (hk.block q h.q_lt hq)
theorem RingIs.drewN (h : RingIs mk tS tE w p q m b C xs) (n : Nat) : RingIs mk tS tE (w.drewN n) p q m b C xs := ⟨h.st, h.row, h.size, h.ne, h.cap, h.beg, h.at_, h.mle⟩
theorem RingIs.heap (h : RingIs mk tS tE w p q m b C xs) (e : w'.heap = w.heap) : RingIs mk tS tE w' p q m b C xs := h.keep (by rw [e]) (by rw [e])
theorem RingIs.drew (h : RingIs mk tS tE w p q m b C xs) : RingIs mk tS tE w.drew p q m b C xs := ⟨h.st, h.row, h.size, h.ne, h.cap, h.beg, h.at_, h.mle⟩
theorem RingIs.below {B : Nat} (h : RingIs mk tS tE w p q m b C xs) (hb : Below B w w') (hp : p < B) (hq : q < B) : RingIs mk tS tE w' p q m b C xs :=
  h.keep (hb.block p hp) (hb.block q hq)
theorem RingIs.c0 (h : RingIs mk tS tE w p q m b C xs) : w.cell? ⟨p, 0, none⟩ = some (.slice (some ⟨q, 0, none⟩) m m) := by rw [cell_of_block h.st]; rfl
theorem RingIs.c1 (h : RingIs mk tS tE w p q m b C xs) : w.cell? ⟨p, 1, none⟩ = some (.int .i64 (b : Int)) := by rw [cell_of_block h.st]; rfl
theorem RingIs.c2 (h : RingIs mk tS tE w p q m b C xs) : w.cell? ⟨p, 2, none⟩ = some (.int .i64 (xs.length : Int)) := by rw [cell_of_block h.st]; rfl
theorem RingIs.free (h : RingIs mk tS tE w p q m b C xs) (i : Nat) : w.frozen? ⟨p, i, none⟩ = false := frozen_of_block h.st i
theorem RingIs.freeq (h : RingIs mk tS tE w p q m b C xs) (i : Nat) : w.frozen? ⟨q, i, none⟩ = false := frozen_of_block h.row i
theorem RingIs.slot (h : RingIs mk tS tE w p q m b C xs) (i : Nat) (hi : i < xs.length) : w.cell? ⟨q, (b + i) % m, none⟩ = some (mk xs[i]) := by rw [cell_of_block h.row]; exact h.at_ i hi
theorem RingIs.some_slot (h : RingIs mk tS tE w p q m b C xs) (hm : 0 < m) (i : Nat) : ∃ v, w.cell? ⟨q, (b + i) % m, none⟩ = some v := by
  rw [cell_of_block h.row]
  have : (b + i) % m < C.size := by rw [h.size]; exact Nat.mod_lt _ hm
  exact ⟨_, Array.getElem?_eq_getElem this⟩
theorem mod_ne {b i j m : Nat} (hi : i < m) (hj : j < m) (hij : i ≠ j) : (b + i) % m ≠ (b + j) % m := by
  intro e
  have h1 : (b + i) % m = (b + j) % m := e
  rcases Nat.lt_or_gt_of_ne hij with hlt | hlt
  · have h2 : (b + j) % m = ((b + i) + (j - i)) % m := by congr 1; omega
    rw [h2] at h1
    have h3 := Nat.sub_mod_eq_zero_of_mod_eq h1.symm
    rw [show b + i + (j - i) - (b + i) = j - i from by omega, Nat.mod_eq_of_lt (by omega)] at h3
    omega
  · have h2 : (b + i) % m = ((b + j) + (i - j)) % m := by congr 1; omega
    rw [h2] at h1
    have h3 := Nat.sub_mod_eq_zero_of_mod_eq h1
    rw [show b + j + (i - j) - (b + j) = i - j from by omega, Nat.mod_eq_of_lt (by omega)] at h3
    omega
/-- one more behind all others -/
theorem RingIs.push (h : RingIs mk tS tE w p q m b C xs) (hm : xs.length < m) (x : α) :
    RingIs mk tS tE ((w.setCell ⟨q, (b + xs.length) % m, none⟩ (mk x)).setCell ⟨p, 2, none⟩ (.int .i64 ((xs.length : Int) + 1))) p q m b (C.setIfInBounds ((b + xs.length) % m) (mk x)) (xs ++ [x]) := by
  have hlt : (b + xs.length) % m < C.size := by rw [h.size]; exact Nat.mod_lt _ (by omega)
  refine ⟨?_, ?_, by rw [Array.size_setIfInBounds, h.size], h.ne, by simp; omega, h.beg, ?_, h.mle⟩
  · have h1 : (w.setCell ⟨q, (b + xs.length) % m, none⟩ (mk x)).heap[p]? = some (.cells #[.slice (some ⟨q, 0, none⟩) m m, .int .i64 (b : Int), .int .i64 (xs.length : Int)] tS (0, 0)) := (set_other h.ne _).trans h.st
    rw [set_block h1]
    simp
  · rw [set_other (p := ⟨p, 2, none⟩) h.ne.symm, set_block h.row]
  · intro i hi
    by_cases e : i = xs.length
    · subst e
      simp [hlt]
    · have hi' : i < xs.length := by simp at hi; omega
      have hne := mod_ne (b := b) (m := m) (i := i) (j := xs.length) (by omega) hm e
      rw [Array.getElem?_setIfInBounds_ne (Ne.symm hne), h.at_ i hi']
      simp [hi']
/-- another thing at a place -/
theorem RingIs.set (h : RingIs mk tS tE w p q m b C xs) (i : Nat) (hi : i < xs.length) (x : α) :
    RingIs mk tS tE (w.setCell ⟨q, (b + i) % m, none⟩ (mk x)) p q m b (C.setIfInBounds ((b + i) % m) (mk x)) (xs.set i x) := by
  have hcap := h.cap
  have hlt : (b + i) % m < C.size := by rw [h.size]; exact Nat.mod_lt _ (by omega)
  refine ⟨?_, ?_, by rw [Array.size_setIfInBounds, h.size], h.ne, by simp; omega, h.beg, ?_, h.mle⟩
  · rw [List.length_set]
    exact (set_other h.ne _).trans h.st
  · exact set_block h.row _ _
  · intro j hj
    rw [List.length_set] at hj
    by_cases e : j = i
    · subst e
      simp [hlt]
    · have hne := mod_ne (b := b) (m := m) (i := j) (j := i) (by omega) (by omega) e
      rw [Array.getElem?_setIfInBounds_ne (Ne.symm hne), h.at_ j hj]
      simp [Ne.symm e]
/-- one less behind -/
theorem RingIs.drop_last (h : RingIs mk tS tE w p q m b C xs) (hx : 0 < xs.length) :
    RingIs mk tS tE (w.setCell ⟨p, 2, none⟩ (.int .i64 ((xs.length : Int) - 1))) p q m b C xs.dropLast := by
  refine ⟨?_, ?_, h.size, h.ne, by have := h.cap; simp; omega, h.beg, ?_, h.mle⟩
  · rw [set_block h.st]
    simp
    omega
  · rw [set_other (p := ⟨p, 2, none⟩) h.ne.symm, h.row]
  · intro i hi
    rw [List.length_dropLast] at hi
    rw [h.at_ i (by omega)]
    simp
/-- one less at the front -/
theorem RingIs.pop (h : RingIs mk tS tE w p q m b C xs) (x : α) (r : List α) (hx : xs = x :: r) :
    RingIs mk tS tE ((w.setCell ⟨p, 1, none⟩ (.int .i64 (((b + 1) % m : Nat) : Int))).setCell ⟨p, 2, none⟩ (.int .i64 ((xs.length : Int) - 1))) p q m ((b + 1) % m) C r := by
  subst hx
  have hm : 0 < m := by have := h.cap; simp at this; omega
  refine ⟨?_, ?_, h.size, h.ne, by have := h.cap; simp at this; omega, .inl (Nat.mod_lt _ hm), ?_, h.mle⟩
  · have h1 : (w.setCell ⟨p, 1, none⟩ (.int .i64 (((b + 1) % m : Nat) : Int))).heap[p]? = some (.cells #[.slice (some ⟨q, 0, none⟩) m m, .int .i64 (((b + 1) % m : Nat) : Int), .int .i64 ((x :: r).length : Int)] tS (0, 0)) := by
      rw [set_block h.st]; simp
    rw [set_block h1]
    simp
  · rw [set_other (p := ⟨p, 2, none⟩) h.ne.symm, set_other (p := ⟨p, 1, none⟩) h.ne.symm, h.row]
  · intro i hi
    have := h.at_ (i + 1) (by simp; omega)
    rw [show b + (i + 1) = (b + 1) + i from by omega] at this
    rw [Nat.mod_add_mod, this]
    simp
end
end Go.Proofs.YtihhflajkohibaaGreatDoor
