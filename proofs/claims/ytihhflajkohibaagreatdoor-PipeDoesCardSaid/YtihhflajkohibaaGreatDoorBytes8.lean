/- Bytes in a block of the call's own: made out of a text, written, read back. No conditions beyond each lemma's. -/
import Derived.Test.YtihhflajkohibaaGreatDoorNetOps
import Derived.Lib.ConvBytes
import Derived.Lib.Strings
import Derived.Laws.BytesArg
namespace Go.Proofs.YtihhflajkohibaaGreatDoor
set_option linter.unusedSimpArgs false
set_option linter.unusedVariables false
set_option maxRecDepth 100000
open Go.RowKit

def BytesAt (w : World) (g : Nat) (l : List UInt8) : Prop :=
  ∀ j, j < l.length → w.cell? ⟨g, j, none⟩ = some (.int .u8 ((l.getD j 0).toNat : Int)) ∧ w.frozen? ⟨g, j, none⟩ = false
theorem BytesAt.below {w w' : World} {g : Nat} {l : List UInt8} (h : BytesAt w g l) {B : Nat} (hb : Below B w w') (hg : g < B) : BytesAt w' g l := fun j hj =>
  ⟨(hb.cell (p := ⟨g, j, none⟩) hg).trans (h j hj).1, (hb.frozen (p := ⟨g, j, none⟩) hg).trans (h j hj).2⟩
theorem BytesAt.set {w : World} {g : Nat} {l : List UInt8} (h : BytesAt w g l) {i : Nat} (hi : i < l.length) (b : UInt8) :
    BytesAt (w.setCell ⟨g, i, none⟩ (.int .u8 (b.toNat : Int))) g (l.set i b) := by
  intro j hj
  rw [List.length_set] at hj
  refine ⟨?_, ?_⟩
  · by_cases e : j = i
    · subst e
      rw [World.cell?_setCell_same w _ _ (h j hj).1]
      simp [List.getD_eq_getElem?_getD, hi]
    · rw [World.cell?_setCell_other w _ _ _ (by intro h; injection h with _ h; exact e h.symm)]
      rw [(h j hj).1]
      simp [List.getD_eq_getElem?_getD, List.getElem?_set, Ne.symm e]
  · rw [World.frozen?_setCell]; exact (h j hj).2
theorem to_bytes (s : ByteArray) (w : World) : ∃ cap w', (convert 9 118 (.string s)).run Tryz.prog w = .ok (.slice (some ⟨w.heap.size, 0, none⟩) s.size cap) w' ∧
    Below w.heap.size w w' ∧ BytesAt w' w.heap.size s.data.toList ∧ w'.heap.size = w.heap.size + 1 := by
  refine ⟨_, _, Lib.run_convert_string_bytes w 9 118 5 s (u := .string) Tryz.underlying9 Tryz.underlying118 Tryz.underlying5, ?_, ?_, Lib.bytesWorld_size w 5 s⟩
  · exact ⟨rfl, rfl, rfl, by rw [Lib.bytesWorld_size]; omega, fun k hk => Lib.bytesWorld_at_old w 5 s k hk⟩
  · intro j hj
    rw [← Lib.size_eq] at hj
    refine ⟨Lib.bytesWorld_cell w 5 s j hj, ?_⟩
    have hl : (Lib.bytesCells w 5 s).size ≥ s.size := by
      simp only [Lib.bytesCells, Array.size_append, Array.size_map]
      rw [show s.data.size = s.size from rfl]; omega
    simp [World.frozen?, Lib.bytesWorld_at_new]
    omega
theorem of_bytes {w : World} {g : Nat} {l : List UInt8} (h : BytesAt w g l) (n cap : Nat) (hn : n = l.length) :
    (convert 118 9 (.slice (some ⟨g, 0, none⟩) n cap)).run Tryz.prog w = .ok (.string ⟨l.toArray⟩) w := by
  have := run_convert_bytes_arg (P := Tryz.prog) w 118 5 Tryz.underlying118 Tryz.underlying5 g 0 n cap (l.map fun b => (b.toNat : Int)) (by simp [hn])
    (fun i hi => by
      rw [Nat.zero_add, (h i (by omega)).1]
      simp [List.getD_eq_getElem?_getD, List.getElem?_eq_getElem (show i < l.length by omega)]) 9 Tryz.underlying9
  rw [this]
  have e : l.map ((fun n : Int => UInt8.ofNat n.toNat) ∘ fun b : UInt8 => (b.toNat : Int)) = l := by
    rw [List.map_congr_left (g := id) (fun b _ => by simp)]; simp
  simp [strOfNums, e]
end Go.Proofs.YtihhflajkohibaaGreatDoor
