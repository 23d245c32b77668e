/- Layer 9: an end in memory and the reference's value in a block, beside each other. Conditions: both lie. -/
import Derived.Test.YtblaanohidldpaaLinkTwo
import Derived.Test.YtblaanohidldpaaLinkRefTake
namespace Go.Proofs.Ytblaanohidldpaa.Link
set_option linter.unusedSimpArgs false
set_option linter.unusedVariables false
open Go.RowKit
theorem Low.trim {w : World} {G : List Nat} {x : LE} {A : Option Addr} {c : Nat} (h : Low w G x A c) : ∃ G', Low w G' x A c ∧ (∀ k, k ∈ G' → k ∈ G) ∧ ∀ k, k ∈ G' → k < w.heap.size := by
  by_cases hn : x.bodies = []
  · exact ⟨[], ⟨h.le, h.max, fun h => absurd hn h⟩, by simp, by simp⟩
  · exact ⟨G, h, fun _ hk => hk, fun k hk => (h.some_ hn).lt hk⟩
/-- the end x behind p, the value y in block b -/
structure Doe (w : World) (p b : Nat) (F G : List Nat) (x y : LE) (A : Option Addr) (c : Nat) (wr : World) : Prop where
  e : EndIs wr p F x
  v : wr.heap[b]? = some (.cells (ends y A c) 38 (0, 0))
  low : Low wr G y A c
  glt : ∀ k, k ∈ G → k < wr.heap.size
  bF : b ∉ F
  bG : b ∉ G
  ap : ∀ k, k ∈ G → k ∉ F
  newF : ∀ k, k ∈ F → w.heap.size ≤ k
  newb : w.heap.size ≤ b
  below : Below w.heap.size w wr
section
variable {w wr w' v w7 : World} {p b : Nat} {F G H G5 : List Nat} {x y z : LE} {A A5 : Option Addr} {c c5 : Nat}
theorem Doe.end_ (h : Doe w p b F G x y A c wr) (he : EndIs w' p H z) (ht : Turns F H wr w') : Doe w p b H G z y A c w' := by
  have hb := lt_of_block h.v
  have hs := ht.kept.size
  exact ⟨he, (ht.kept.block b hb h.bF).trans h.v, h.low.kept ht.kept h.ap, fun k hk => Nat.lt_of_lt_of_le (h.glt k hk) hs, fun hm => (ht.new b hm).elim h.bF (fun h1 => by omega), h.bG,
    fun k hk hm => (ht.new k hm).elim (h.ap k hk) (fun h1 => by have := h.glt k hk; omega), fun k hk => (ht.new k hk).elim (h.newF k) (fun h1 => Nat.le_trans h.below.size h1), h.newb, h.below.trans (ht.below (B := w.heap.size) h.below.size h.newF).1⟩
theorem Doe.after (h : Doe w p b F G x y A c wr) (hb : Below wr.heap.size wr w') : Doe w p b F G x y A c w' :=
  ⟨h.e.after hb, (hb.block b (lt_of_block h.v)).trans h.v, h.low.after hb, fun k hk => Nat.lt_of_lt_of_le (h.glt k hk) hb.size, h.bF, h.bG, h.ap, h.newF, h.newb, h.below.trans (hb.mono h.below.size)⟩
theorem Doe.drewN (h : Doe w p b F G x y A c wr) (n : Nat) : Doe w p b F G x y A c (wr.drewN n) :=
  ⟨h.e.drewN n, h.v, h.low.drewN n, h.glt, h.bF, h.bG, h.ap, h.newF, h.newb, below_drewN h.below n⟩
/-- the value is another one -/
theorem Doe.put (h : Doe w p b F G x y A c wr) (hb : Below wr.heap.size wr v) (hl : Low v G5 z A5 c5) (hG : ∀ k, k ∈ G5 → k ∈ G ∨ wr.heap.size ≤ k) (hq : w7.heap[b]? = some (.cells (ends z A5 c5) 38 (0, 0))) (hk : Kept [b] v w7) :
    ∃ G6, Doe w p b F G6 x z A5 c5 w7 := by
  obtain ⟨G6, hl6, hs6, ht6⟩ := hl.trim
  have hbl := lt_of_block h.v
  have hnb : b ∉ G6 := fun hm => (hG b (hs6 b hm)).elim h.bG (fun h1 => by omega)
  refine ⟨G6, h.e.keep (Nat.le_trans hb.size hk.size) fun k hkF => ?_, hq, hl6.kept hk (fun k hkm => by simp; rintro rfl; exact hnb hkm), fun k hkm => Nat.lt_of_lt_of_le (ht6 k hkm) hk.size, h.bF, hnb,
    fun k hkm hkF => (hG k (hs6 k hkm)).elim (fun h1 => h.ap k h1 hkF) (fun h1 => by have := h.e.lt hkF; omega), h.newF, h.newb, (h.below.trans (hb.mono h.below.size)).trans (hk.below (Nat.le_trans h.below.size hb.size) (by simp; exact h.newb))⟩
  have hlt := h.e.lt hkF
  exact (hk.block k (Nat.lt_of_lt_of_le hlt hb.size) (by simp; rintro rfl; exact h.bF hkF)).trans (hb.block k hlt)
end
/-- no text lies where a struct of numbers lies -/
theorem low_zero {v : World} {G : List Nat} {x : LE} {A : Option Addr} {c g : Nat} (h : Low v G x A c) (hg : v.heap[g]? = some (.cells zero11 38 (0, 0))) : x.bodies = [] ∨ g ∉ G := by
  by_cases hn : x.bodies = []
  · exact .inl hn
  · refine .inr fun hm => ?_
    have hpos : 0 < x.bodies.length := List.length_pos_iff.2 hn
    have h0 : (x.bodies.map Value.string)[0]? = some (.string x.bodies[0]) := by rw [List.getElem?_map, List.getElem?_eq_getElem hpos]; rfl
    obtain ⟨g', off, _, hG, _, hc⟩ := (h.some_ hn).at h0
    rw [hG] at hm
    simp at hm
    subst hm
    rw [cell_of_block hg] at hc
    have hb : off + 0 < zero11.size := (Array.getElem?_eq_some_iff.1 hc).1
    have h11 : zero11.size = 11 := rfl
    obtain ⟨o, ho⟩ : ∃ o, off + 0 = o := ⟨_, rfl⟩
    rw [ho] at hc hb
    have : o = 0 ∨ o = 1 ∨ o = 2 ∨ o = 3 ∨ o = 4 ∨ o = 5 ∨ o = 6 ∨ o = 7 ∨ o = 8 ∨ o = 9 ∨ o = 10 := by omega
    rcases this with rfl | rfl | rfl | rfl | rfl | rfl | rfl | rfl | rfl | rfl | rfl <;> simp [zero11] at hc
theorem Low.struck {v w7 : World} {G : List Nat} {x : LE} {A : Option Addr} {c g : Nat} (h : Low v G x A c) (hg : v.heap[g]? = some (.cells zero11 38 (0, 0))) (hk : Kept [g] v w7) : Low w7 G x A c :=
  ⟨h.le, h.max, fun hn => (h.some_ hn).kept hk fun k hkm => by
    simp; rintro rfl
    rcases low_zero h hg with h1 | h1
    · exact hn h1
    · exact h1 hkm⟩
end Go.Proofs.Ytblaanohidldpaa.Link
