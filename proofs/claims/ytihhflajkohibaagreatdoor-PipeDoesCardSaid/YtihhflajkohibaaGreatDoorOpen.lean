/- Arguments opened: slices that came in, as lists of the elements that they have. Conditions: the reading of the argument. -/
import Derived.Test.YtihhflajkohibaaGreatDoorRows
import Derived.Test.YtihhflajkohibaaGreatDoorSlices
import Derived.ProofKit
import Derived.OpenShut
import Derived.ShutString
import Derived.ChangeOld
import Derived.Below
namespace Go.Proofs.YtihhflajkohibaaGreatDoor
set_option linter.unusedSimpArgs false
set_option linter.unusedVariables false
set_option maxRecDepth 100000
open Go.ChangeShapes Go.WideShapes Go.ChangeAt Go.RowKit

theorem knobNone : ownKnob Tryz.prog.godebug = none := by kernel_rfl
theorem laidOut : laidOutB Tryz.prog = true := by kernel_rfl

section
variable {H : Type} {enc : TypeId × Value → H} {P : Program} {w : World}
theorem row_lt {a : Addr} {n : Nat} {ps : List MemPlace} (hn : 0 < n) (h : ∀ x ∈ ps, x.block < w.heap.size) (hp : ∀ x, x ∈ MemPlace.row a n → x ∈ ps) : a.block < w.heap.size := by
  have h0 : MemPlace.cell a.block a.off ∈ MemPlace.row a n := by
    unfold MemPlace.row
    exact List.mem_map.2 ⟨0, by simpa using hn, by simp⟩
  exact h _ (hp _ h0)
/-- the slice's first cells, if the address is plain -/
theorem sl_of_cells {a : Addr} {len : Nat} {vs : List Value} (hl : vs.length = len) (hc : ∀ i (h : i < len), w.cell? (a.add i) = some (vs[i]'(by omega))) (hlt : 0 < len → a.block < w.heap.size) :
    Sl w 0 w.heap.size 1 (some a) len vs := by
  refine ⟨by omega, fun hn => ?_⟩
  obtain ⟨b, off, spot⟩ := a
  have hspot : spot = none := by simpa [Addr.add] using World.cell?_spot (hc 0 hn)
  subst hspot
  refine ⟨b, off, rfl, Nat.zero_le _, hlt hn, fun j u hu => ?_⟩
  have hj : j < len := by
    rcases Nat.lt_or_ge j vs.length with h | h
    · omega
    · rw [List.getElem?_eq_none h] at hu; cases hu
  rw [← Go.WideShapes.add_plain, hc j hj]
  rw [List.getElem?_eq_getElem (by omega)] at hu
  exact hu
theorem sl_ints {t e : TypeId} {k : IntKind} {A : Option Addr} {n c : Nat} {d : DataW H} {ps : List MemPlace} (ht : P.underlying t = some (.slice e)) (he : P.underlying e = some (.int k)) (hc : P.cellsOf e = 1)
    (h : DataW.Trod enc P w 0 (fun _ => true) true t (.slice A n c) d ps) (hlt : ∀ x ∈ ps, x.block < w.heap.size) :
    ∃ zs : List Int, n = zs.length ∧ Sl w 0 w.heap.size 1 A zs.length (zs.map (Value.int k)) ∧ zs.length ≤ maxLen ∧ ∀ z ∈ zs, (Lit.int k z).wf = true := by
  obtain ⟨fuel, hf⟩ := h
  rcases open_ints ht he hc hf with ⟨hcs, _⟩ | ⟨x, l, cap, zs, hcs, _, hl, hm, hz, hx, hcell, hwz⟩
  · simp [Value.cells] at hcs
    obtain ⟨rfl, rfl, rfl⟩ := hcs
    exact ⟨[], rfl, Sl.nil _ _ _ _ _, by simp, by simp⟩
  · simp [Value.cells] at hcs
    obtain ⟨rfl, rfl, rfl⟩ := hcs
    simp only [if_true] at hz
    have htl : (zs.take n).length = n := by rw [List.length_take]; omega
    refine ⟨zs.take n, htl.symm, ?_, by omega, fun z hzz => hwz z (List.mem_of_mem_take hzz)⟩
    rw [htl]
    refine sl_of_cells (by rw [List.length_map, htl]) (fun i hi => ?_) (fun hn => ?_)
    · rw [hcell i (by omega)]
      simp [List.getD_eq_getElem?_getD, List.getElem?_eq_getElem (show i < zs.length by omega)]
    · simp only [Prod.mk.injEq] at hx
      refine row_lt (n := zs.length) (by omega) hlt (fun y hy => ?_)
      rw [hx.2]; exact hy
theorem sl_strings {t e : TypeId} {A : Option Addr} {n c : Nat} {d : DataW H} {ps : List MemPlace} (ht : P.underlying t = some (.slice e)) (he : P.underlying e = some .string) (hc : P.cellsOf e = 1)
    (h : DataW.Trod enc P w 0 (fun _ => true) true t (.slice A n c) d ps) (hlt : ∀ x ∈ ps, x.block < w.heap.size) :
    ∃ ss : List ByteArray, n = ss.length ∧ Sl w 0 w.heap.size 1 A ss.length (ss.map Value.string) ∧ ss.length ≤ maxLen ∧ ∀ s ∈ ss, s.size ≤ maxLen := by
  obtain ⟨fuel, hf⟩ := h
  rcases open_strings ht he hc hf with ⟨hcs, _⟩ | ⟨x, l, cap, ss, hcs, _, hl, hm, hz, hx, hcell, hws⟩
  · simp [Value.cells] at hcs
    obtain ⟨rfl, rfl, rfl⟩ := hcs
    exact ⟨[], rfl, Sl.nil _ _ _ _ _, by simp, by simp⟩
  · simp [Value.cells] at hcs
    obtain ⟨rfl, rfl, rfl⟩ := hcs
    simp only [if_true] at hz
    have htl : (ss.take n).length = n := by rw [List.length_take]; omega
    refine ⟨ss.take n, htl.symm, ?_, by omega, fun s hs => hws s (List.mem_of_mem_take hs)⟩
    rw [htl]
    refine sl_of_cells (by rw [List.length_map, htl]) (fun i hi => ?_) (fun hn => ?_)
    · rw [hcell i (by omega)]
      simp [List.getD_eq_getElem?_getD, List.getElem?_eq_getElem (show i < ss.length by omega)]
    · simp only [Prod.mk.injEq] at hx
      refine row_lt (n := ss.length) (by omega) hlt (fun y hy => ?_)
      rw [hx.2]; exact hy
end
end Go.Proofs.YtihhflajkohibaaGreatDoor
