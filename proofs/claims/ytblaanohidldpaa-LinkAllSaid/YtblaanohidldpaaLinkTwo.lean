/- Layer 9: two ends in memory, apart from each other. Conditions: both lie (EndIs). -/
import Derived.Test.YtblaanohidldpaaLinkSame
namespace Go.Proofs.Ytblaanohidldpaa.Link
set_option linter.unusedSimpArgs false
set_option linter.unusedVariables false
open Go.RowKit
theorem new_at (epoch first window queue wait : Int) (hf : u first = first) (w : World) :
    Calls Try.prog 9 #[.int .i64 epoch, .int .u64 first, .int .i64 window, .int .i64 queue, .int .i64 wait] w fun e w' =>
      ∃ p, e = .returned (.pointer (some ⟨p, 0, none⟩)) ∧ w.heap.size ≤ p ∧ EndIs w' p [p] (new epoch first window queue wait) ∧ Below w.heap.size w w' :=
  (new_any epoch first window queue wait hf w).mono fun _ _ ⟨h1, h2, h3⟩ => ⟨_, h1, Nat.le_refl _, h2, h3⟩
/-- two ends, apart, both of them new since a mark -/
structure Duo (B : Nat) (w : World) (p q : Nat) (F G : List Nat) (x y : LE) : Prop where
  l : EndIs w p F x
  r : EndIs w q G y
  apart : ∀ k, k ∈ F → k ∉ G
  newl : ∀ k, k ∈ F → B ≤ k
  newr : ∀ k, k ∈ G → B ≤ k
section
variable {B : Nat} {w w' : World} {p q : Nat} {F G H : List Nat} {x y z : LE}
theorem Duo.symm (h : Duo B w p q F G x y) : Duo B w q p G F y x := ⟨h.r, h.l, fun k hk hm => h.apart k hm hk, h.newr, h.newl⟩
theorem Duo.left (h : Duo B w p q F G x y) (hB : B ≤ w.heap.size) (he : EndIs w' p H z) (ht : Turns F H w w') : Duo B w' p q H G z y :=
  ⟨he, h.r.kept ht.kept (fun k hk hm => h.apart k hm hk), fun k hk hm => (ht.new k hk).elim (fun h1 => h.apart k h1 hm) (fun h1 => by have := h.r.lt hm; omega), fun k hk => (ht.new k hk).elim (h.newl k) (fun h1 => Nat.le_trans hB h1), h.newr⟩
theorem Duo.right (h : Duo B w p q F G x y) (hB : B ≤ w.heap.size) (he : EndIs w' q H z) (ht : Turns G H w w') : Duo B w' p q F H x z := (h.symm.left hB he ht).symm
theorem Duo.drewN (h : Duo B w p q F G x y) (n : Nat) : Duo B (w.drewN n) p q F G x y := ⟨h.l.drewN n, h.r.drewN n, h.apart, h.newl, h.newr⟩
theorem Duo.drew (h : Duo B w p q F G x y) : Duo B w.drew p q F G x y := ⟨h.l.drew, h.r.drew, h.apart, h.newl, h.newr⟩
theorem Duo.after (h : Duo B w p q F G x y) (hb : Below w.heap.size w w') : Duo B w' p q F G x y := ⟨h.l.after hb, h.r.after hb, h.apart, h.newl, h.newr⟩
theorem Duo.belowl (h : Duo B w p q F G x y) (hB : B ≤ w.heap.size) (ht : Turns F H w w') : Below B w w' := (ht.below (B := B) hB h.newl).1
theorem Duo.belowr (h : Duo B w p q F G x y) (hB : B ≤ w.heap.size) (ht : Turns G H w w') : Below B w w' := (ht.below (B := B) hB h.newr).1
end
end Go.Proofs.Ytblaanohidldpaa.Link
