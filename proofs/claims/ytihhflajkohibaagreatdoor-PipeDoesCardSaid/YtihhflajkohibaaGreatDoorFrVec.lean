/- Layers 9 and 10: frames and texts in slices; the reference's Texts of equal texts. Conditions: those of each lemma. -/
import Derived.Test.YtihhflajkohibaaGreatDoorLkMany
namespace Go.Proofs.YtihhflajkohibaaGreatDoor.Link
set_option linter.unusedSimpArgs false
set_option linter.unusedVariables false
set_option maxRecDepth 100000
open Go.RowKit
theorem frames_at (l : List Fr) (i : Nat) (f : Fr) (h : l[i]? = some f) : (l.flatMap Fr.cells)[i * 5]? = some (.int .i64 f.kind) ∧ (l.flatMap Fr.cells)[i * 5 + 1]? = some (.int .i64 f.epoch) ∧ (l.flatMap Fr.cells)[i * 5 + 2]? = some (.int .u64 f.seq) ∧
    (l.flatMap Fr.cells)[i * 5 + 3]? = some (.int .u64 f.ack) ∧ (l.flatMap Fr.cells)[i * 5 + 4]? = some (.string f.body) := by
  induction l generalizing i with
  | nil => simp at h
  | cons g l ih =>
    cases i with
    | zero =>
      simp at h
      subst h
      simp [Fr.cells]
    | succ i =>
      have := ih i (by simpa using h)
      simp only [List.flatMap_cons]
      have hl : g.cells.length = 5 := rfl
      rw [List.getElem?_append_right (by omega), List.getElem?_append_right (by omega), List.getElem?_append_right (by omega), List.getElem?_append_right (by omega), List.getElem?_append_right (by omega), hl,
        show (i + 1) * 5 - 5 = i * 5 from by omega, show (i + 1) * 5 + 1 - 5 = i * 5 + 1 from by omega, show (i + 1) * 5 + 2 - 5 = i * 5 + 2 from by omega, show (i + 1) * 5 + 3 - 5 = i * 5 + 3 from by omega, show (i + 1) * 5 + 4 - 5 = i * 5 + 4 from by omega]
      exact this
/-- where a frame of a row lies -/
structure FrAt (w : World) (g o : Nat) (f : Fr) : Prop where
  c0 : w.cell? ⟨g, o, none⟩ = some (.int .i64 f.kind)
  c1 : w.cell? ⟨g, o + 1, none⟩ = some (.int .i64 f.epoch)
  c2 : w.cell? ⟨g, o + 2, none⟩ = some (.int .u64 f.seq)
  c3 : w.cell? ⟨g, o + 3, none⟩ = some (.int .u64 f.ack)
  c4 : w.cell? ⟨g, o + 4, none⟩ = some (.string f.body)
theorem vec_frame {w : World} {G : List Nat} {A : Option Addr} {n c : Nat} {l : List Fr} (hv : Vec w G 5 A n c (l.flatMap Fr.cells)) : l = [] ∨ ∃ g off, A = some ⟨g, off, none⟩ ∧ g ∈ G ∧ g < w.heap.size ∧ ∀ i f, l[i]? = some f → FrAt w g (off + i * 5) f := by
  cases l with
  | nil => exact .inl rfl
  | cons a l =>
    obtain ⟨h0, _⟩ := frames_at (a :: l) 0 a rfl
    obtain ⟨g, off, rfl, rfl, hg, _⟩ := hv.at h0
    refine .inr ⟨g, off, rfl, by simp, hg, fun i f hf => ?_⟩
    have hone : ∀ j u, ((a :: l).flatMap Fr.cells)[j]? = some u → w.cell? ⟨g, off + j, none⟩ = some u := fun j u hj => by
      obtain ⟨g', off', e, _, _, hc⟩ := hv.at hj
      injection e with e
      injection e with e1 e2
      subst e1; subst e2
      exact hc
    obtain ⟨a0, a1, a2, a3, a4⟩ := frames_at (a :: l) i f hf
    exact ⟨hone _ _ a0, by rw [Nat.add_assoc]; exact hone _ _ a1, by rw [Nat.add_assoc]; exact hone _ _ a2, by rw [Nat.add_assoc]; exact hone _ _ a3, by rw [Nat.add_assoc]; exact hone _ _ a4⟩
theorem FrAt.keep {w w' : World} {g o : Nat} {f : Fr} (h : FrAt w g o f) (hb : w'.heap[g]? = w.heap[g]?) : FrAt w' g o f :=
  ⟨(World.cell?_of_block (a := ⟨g, o, none⟩) hb).trans h.c0, (World.cell?_of_block (a := ⟨g, o + 1, none⟩) hb).trans h.c1, (World.cell?_of_block (a := ⟨g, o + 2, none⟩) hb).trans h.c2, (World.cell?_of_block (a := ⟨g, o + 3, none⟩) hb).trans h.c3, (World.cell?_of_block (a := ⟨g, o + 4, none⟩) hb).trans h.c4⟩
theorem goes_le {x : LE} (hx : x.Ok) : x.goes.length ≤ 1000 := by
  have h1 := hx.w8
  unfold LE.goes
  rw [List.length_append]
  unfold LE.datas LE.acks LE.most
  rw [List.length_map, List.length_range']
  split <;> simp <;> omega
theorem fr_cells_one (l : List Fr) : ∀ u ∈ l.flatMap Fr.cells, u.oneCell' = true := by
  intro u hu
  obtain ⟨f, _, hf⟩ := List.mem_flatMap.1 hu
  simp [Fr.cells] at hf
  rcases hf with rfl | rfl | rfl | rfl | rfl <;> rfl
theorem frame_in {w : World} {F : List Nat} {A : Option Addr} {n c g o k : Nat} {l : List Fr} {f : Fr} (hv : Vec w F 5 A n c (l.flatMap Fr.cells)) (hA : A = some ⟨g, o, none⟩) (hf : l[k]? = some f) : FrAt w g (o + k * 5) f := by
  rcases vec_frame hv with rfl | ⟨g', o', e, _, _, h⟩
  · simp at hf
  · rw [hA] at e
    injection e with e
    injection e with e1 e2
    subst e1; subst e2
    exact h k f hf
set_option maxHeartbeats 2000000 in
theorem texts_is {w : World} {Fa Fb : List Nat} {A B : Option Addr} {c d : Nat} {l : List ByteArray} (ha : Vec w Fa 1 A l.length c (l.map .string)) (hb : Vec w Fb 1 B l.length d (l.map .string)) (hl : l.length ≤ 100000) :
    Calls Tryz.prog 22 #[.slice A l.length c, .slice B l.length d] w fun e w' => e = .returned (.bool true) ∧ ∃ n, w' = w.drewN n := by
  have HA := Lib.hid ha
  have HB := Lib.hid hb
  have HNN := Lib.hid (show ∀ j, j < l.length → ∃ f, (l.map Value.string)[j]? = some (.string f) from fun j hj => ⟨l[j], by rw [List.getElem?_map, List.getElem?_eq_getElem hj]; rfl⟩)
  clear ha hb
  go_enter Tryz.func22, Tryz.ntmps22
  go_wp2_with fail
  go_loopw [5] (fun i wr => ∃ k n : Nat, k ≤ l.length ∧ i = .int .i64 (k : Int) ∧ wr = w.drewN n) (fun i _ => l.length - (intOf i).toNat)
  case atStart => exact ⟨0, 0, Nat.zero_le _, rfl, rfl⟩
  case round =>
    obtain ⟨k, n, hk, rfl, rfl⟩ := hrel
    by_cases hlt : k < l.length
    · obtain ⟨f, hf⟩ := HNN.out k hlt
      obtain ⟨g1, o1, rfl, _, _, c1⟩ := HA.out.at hf
      obtain ⟨g2, o2, rfl, _, _, c2⟩ := HB.out.at hf
      have i0 : (0 : Int) ≤ (k : Int) := by omega
      have i1 : (k : Int) < (l.length : Int) := by omega
      clear hf
      go_wp2_with fail
      go_quiet (fail)
      go_wp2
      go_roundw
      case rel => exact ⟨k + 1, _, hlt, by go_num, rfl⟩
      case measure => simp [intOf]; omega
    · obtain rfl : k = l.length := by omega
      go_wp2
      go_ret
      exact ⟨rfl, _, rfl⟩
end Go.Proofs.YtihhflajkohibaaGreatDoor.Link
