/- Arguments opened: a slice of whatever structs that came in, as the list of what its elements are. Conditions: the reading of the argument. -/
import Derived.Test.YtihhflajkohibaaGreatDoorOpen
import Derived.Deep.Slices
import Derived.Deep.Fields
import Derived.ChangeSame
import Derived.ChangeArms
namespace Go.Proofs.YtihhflajkohibaaGreatDoor
set_option linter.unusedSimpArgs false
set_option linter.unusedVariables false
set_option maxRecDepth 100000
open Go.ChangeShapes Go.WideShapes Go.ChangeAt Go.RowKit Go.Deep

theorem flat_get {α : Type} {cells : α → List Value} {size : Nat} (hl : ∀ a, (cells a).length = size) (l : List α) (i r : Nat) (hr : r < size) : (l.flatMap cells)[i * size + r]? = (l[i]?).bind fun a => (cells a)[r]? := by
  induction l generalizing i with
  | nil => simp
  | cons a l ih =>
    rw [List.flatMap_cons]
    cases i with
    | zero =>
      rw [Nat.zero_mul, Nat.zero_add, List.getElem?_append_left (by rw [hl]; exact hr)]
      simp
    | succ i =>
      rw [List.getElem?_append_right (by rw [hl, Nat.add_mul]; omega), hl, show (i + 1) * size + r - size = i * size + r from by rw [Nat.add_mul]; omega, ih i]
      simp
theorem flat_len {α : Type} {cells : α → List Value} {size : Nat} (hl : ∀ a, (cells a).length = size) (l : List α) : (l.flatMap cells).length = l.length * size := by
  induction l with
  | nil => simp
  | cons a l ih => rw [List.flatMap_cons, List.length_append, ih, hl, List.length_cons, Nat.add_mul]; omega
section
variable {H : Type} {enc : TypeId × Value → H} {P : Program} {w : World}
theorem sl_any {α : Type} (cells : α → List Value) (Good : α → Prop) (size : Nat) (hs : 0 < size) (hl : ∀ a, (cells a).length = size) {t e : TypeId} {A : Option Addr} {n c : Nat} {d : DataW H} {ps : List MemPlace} (ht : P.underlying t = some (.slice e)) (hC : P.cellsOf e = size)
    (helem : ∀ fuel cs y, DataW.trod enc P w 0 (fun _ => true) true fuel e cs = some y → ∃ a, cs = cells a ∧ Good a)
    (h : DataW.Trod enc P w 0 (fun _ => true) true t (.slice A n c) d ps) (hlt : ∀ x ∈ ps, x.block < w.heap.size) :
    ∃ l : List α, n = l.length ∧ Sl w 0 w.heap.size size A l.length (l.flatMap cells) ∧ l.length ≤ maxLen ∧ ∀ a ∈ l, Good a := by
  obtain ⟨fuel, hf⟩ := h
  rcases open_slice ht hf with ⟨hcs, _⟩ | ⟨a, len, cap, m, n', D, Pl, hcs, hb, hle, hm, hmm, hx, hi⟩
  · simp [Value.cells] at hcs
    obtain ⟨rfl, rfl, rfl⟩ := hcs
    exact ⟨[], rfl, Sl.nil _ _ _ _ _, Nat.zero_le _, by simp⟩
  · simp [Value.cells] at hcs
    obtain ⟨rfl, rfl, rfl⟩ := hcs
    simp only [if_true] at hmm
    subst hmm
    rw [hC] at hx
    have hat : ∀ i : Fin n, ∃ b : α, Good b ∧ ∀ r u, (cells b)[r]? = some u → w.cell? (a.add (i.val * size + r)) = some u := by
      intro i
      obtain ⟨cs', hc, ht'⟩ := hi i.val (by have := i.isLt; omega)
      rw [hC] at hc
      obtain ⟨b, rfl, hg⟩ := helem _ _ _ ht'
      obtain ⟨_, hcl, hcat⟩ := World.cells?_some hc
      refine ⟨b, hg, fun r u hr => ?_⟩
      have hrl : r < size := by
        have := (List.getElem?_eq_some_iff.1 hr).1
        rw [hl] at this; exact this
      rw [← Go.Deep.add_add, hcat r hrl, hr]
    obtain ⟨g, hg⟩ := Classical.axiomOfChoice hat
    have hlen : (List.ofFn g).length = n := List.length_ofFn
    have hcell : ∀ j u, ((List.ofFn g).flatMap cells)[j]? = some u → w.cell? (a.add j) = some u := by
      intro j u hj
      have hj2 : j = j / size * size + j % size := (Nat.div_add_mod' j size).symm
      rw [hj2, flat_get hl _ _ _ (Nat.mod_lt _ hs)] at hj
      rw [List.getElem?_ofFn] at hj
      by_cases hin : j / size < n
      · rw [dif_pos hin] at hj
        have := (hg ⟨j / size, hin⟩).2 (j % size) u (by simpa using hj)
        rw [hj2]; exact this
      · rw [dif_neg hin] at hj; simp at hj
    refine ⟨List.ofFn g, hlen.symm, ?_, by omega, fun b hb => ?_⟩
    · refine ⟨flat_len hl _, fun hn => ?_⟩
      have hpos : 0 < ((List.ofFn g).flatMap cells).length := by rw [flat_len hl]; exact Nat.mul_pos hn hs
      have h0 := hcell 0 _ (List.getElem?_eq_getElem hpos)
      obtain ⟨b, off, spot⟩ := a
      have hspot : spot = none := by simpa [Addr.add] using World.cell?_spot h0
      subst hspot
      refine ⟨b, off, rfl, Nat.zero_le _, ?_, fun j u hu => ?_⟩
      · simp only [Prod.mk.injEq] at hx
        have hbig : 0 < m * size := Nat.mul_pos (by omega) hs
        refine row_lt (a := ⟨b, off, none⟩) (n := m * size) hbig hlt (fun y hy => ?_)
        rw [hx.2]; exact List.mem_append_left _ hy
      · rw [← Go.WideShapes.add_plain]; exact hcell j u hu
    · obtain ⟨i, rfl⟩ := List.mem_ofFn.1 hb
      exact (hg i).1
end
theorem list9 {l : List Value} (h : l.length = 9) : ∃ a b c d e f g i j, l = [a, b, c, d, e, f, g, i, j] := by
  match l, h with
  | [a, b, c, d, e, f, g, i, j], _ => exact ⟨a, b, c, d, e, f, g, i, j, rfl⟩
theorem list5 {l : List Value} (h : l.length = 5) : ∃ a b c d e, l = [a, b, c, d, e] := by
  match l, h with
  | [a, b, c, d, e], _ => exact ⟨a, b, c, d, e, rfl⟩
end Go.Proofs.YtihhflajkohibaaGreatDoor
