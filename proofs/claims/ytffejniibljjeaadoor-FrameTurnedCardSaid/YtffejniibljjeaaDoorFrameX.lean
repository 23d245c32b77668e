/- Layer 6: Why answers as the plain why. Conditions: the table of layer 5 and the variable of package errors are laid. -/
import Derived.Test.YtffejniibljjeaaDoorFrameW
namespace Go.Proofs.YtffejniibljjeaaDoor.Frame
set_option linter.unusedSimpArgs false
set_option linter.unusedVariables false
open Go.RowKit
open Go.Proofs.YtffejniibljjeaaDoor
open Go.Proofs.YtffejniibljjeaaDoor.Link (Fr right_is right_any frBox bcell ret_bool empty_size)

set_option maxRecDepth 100000 in
set_option maxHeartbeats 2000000 in
theorem Why_fine (s : ByteArray) (w : World) (hs : s.size ≤ maxLen) (ht : TabAt w) (h : (why s.data.toList).2 = 0) : Calls Tryd.prog 16 #[.string s] w fun e w' => e = .returned (.tuple #[.int .i64 0, .int .i64 0]) ∧ Below w.heap.size w w' := by
  obtain ⟨k, ep, sq, ak, b, hf⟩ : ∃ k ep sq ak b, get s.data.toList = ⟨k, ep, sq, ak, b⟩ := ⟨_, _, _, _, _, rfl⟩
  have hg := get_fine s w hs ht h
  rw [hf] at hg
  have HG := Lib.hid hg
  clear h hg hf
  go_enter Tryd.func16, Tryd.ntmps16
  go_wp2_with fail
  refine (HG.out).mono ?_
  rintro e v ⟨rfl, hb⟩
  unfold Link.Fr.val
  go_wp2_with (go_at_call 25; refine (as_nil _ _).mono ?_; rintro e w' ⟨rfl, rfl⟩)
  go_ret2
  exact ⟨rfl, (hb.alloc hb.size _).alloc (Nat.le_trans hb.size (by simp)) _⟩
set_option maxRecDepth 100000 in
set_option maxHeartbeats 2000000 in
theorem Why_bad (s : ByteArray) (w : World) (hs : s.size ≤ maxLen) (ht : TabAt w) (hg : ErrAt w) (h : (why s.data.toList).2 ≠ 0) : Calls Tryd.prog 16 #[.string s] w fun e w' => e = .returned (.tuple #[.int .i64 ((why s.data.toList).1 : Int), .int .i64 (why s.data.toList).2]) ∧ Below w.heap.size w w' := by
  have hgb := get_bad s _ hs ht h
  have hr := why_range s.data.toList
  generalize (why s.data.toList).2 = no at *
  generalize (why s.data.toList).1 = at_ at *
  obtain ⟨n, rfl⟩ : ∃ n : Nat, no = (n : Int) := ⟨no.toNat, by omega⟩
  have r1 : 61 ≤ n := by omega
  have r2 : n ≤ 66 := by omega
  have HG := Lib.hid hgb
  clear h hgb hr
  go_enter Tryd.func16, Tryd.ntmps16
  go_wp2_with fail
  refine (HG.out).mono ?_
  rintro e wg ⟨g, rfl, hf, hge, hb⟩
  have hgv : ErrAt wg := hg.below hb hg.pos
  have hsz := hb.size
  rw [noFr_val]
  have hb1 : Below wg.heap.size wg (wg.alloc (.cells zeros 25)) := (Below.refl _ _).alloc (Nat.le_refl _) _
  have hb2 : Below wg.heap.size wg ((wg.alloc (.cells zeros 25)).alloc (.cells #[.pointer Option.none] 55)) := hb1.alloc hb1.size _
  have hT : ((wg.alloc (.cells zeros 25)).alloc (.cells #[.pointer Option.none] 55)).heap[wg.heap.size + 1]? = some (.cells #[.pointer Option.none] 55 (0, 0)) := by
    have h := heap_alloc_new (wg.alloc (.cells zeros 25)) (.cells #[.pointer Option.none] 55)
    simpa using h
  have HT := Lib.hid hT
  have HB2 := Lib.hid (hb.trans (hb2.mono hsz))
  have HGV := Lib.hid (hgv.below hb2 hgv.pos)
  have HF := Lib.hid ((hf.alloc (.cells zeros 25)).alloc (.cells #[.pointer Option.none] 55))
  clear hT hb1 hb2 hgv
  go_wp2_with fail
  refine (as_fault g at_ (wg.heap.size + 1) n _ HGV.out HF.out HT.out).mono ?_
  rintro e v2 ⟨rfl, hT2, hk⟩
  have hb2 : Below w.heap.size w v2 := HB2.out.trans (hk.below (B := w.heap.size) (by have := HB2.out.size; omega) (by simp; omega))
  have hf2 : FaultAt v2 g at_ n := (hk.block g (lt_of_block HF.out) (by have := lt_of_block hf; simp; omega)).trans HF.out
  have t0 := cell_of_block hT2 0
  simp at t0
  have f0 := cell_of_block hf2 0
  simp at f0
  have HF2 := Lib.hid hf2
  clear hf2 hT2 hf
  go_wp2_with fail
  go_loop [7] (fun i => ∃ j : Nat, j ≤ n ∧ 61 ≤ j ∧ i = .int .i64 (j : Int)) (fun i => n + 1 - (intOf i).toNat)
  case atStart => exact ⟨61, r1, Nat.le_refl _, rfl⟩
  case round =>
    obtain ⟨j, hj, hj1, rfl⟩ := hrel
    by_cases e : j = n
    · subst e
      have hq : ((j : Int) == (j : Int)) = true := beq_self_eq_true _
      go_wp2_with ((go_at_call 26; refine (is_number g at_ (j : Int) (j : Int) _ HF2.out).mono ?_; rintro e w' ⟨rfl, rfl⟩))
      go_ret2
      exact ⟨rfl, hb2⟩
    · have hlt : j < n := by omega
      have hq : ((n : Int) == (j : Int)) = false := beq_eq_false_iff_ne.2 (by omega)
      go_wp2_with ((go_at_call 26; refine (is_number g at_ (n : Int) (j : Int) _ HF2.out).mono ?_; rintro e w' ⟨rfl, rfl⟩))
      go_round
      case rel => exact ⟨j + 1, by omega, by omega, by go_num⟩
      case measure => simp [intOf]; omega
theorem Why_any (s : ByteArray) (w : World) (hs : s.size ≤ maxLen) (ht : TabAt w) (hg : ErrAt w) : Calls Tryd.prog 16 #[.string s] w fun e w' => e = .returned (.tuple #[.int .i64 ((why s.data.toList).1 : Int), .int .i64 (why s.data.toList).2]) ∧ Below w.heap.size w w' := by
  by_cases h : (why s.data.toList).2 = 0
  · have h1 := why_fine h
    rw [h, h1]
    exact Why_fine s w hs ht h
  · exact Why_bad s w hs ht hg h
/-- two frames, field by field -/
def frSame (f g : Fr) : Bool := f.kind == g.kind && f.epoch == g.epoch && f.seq == g.seq && f.ack == g.ack && f.body.toList == g.body.toList
theorem frSame_iff {f g : Fr} : frSame f g = true ↔ f = g := by
  obtain ⟨k, ep, sq, ak, b⟩ := f
  obtain ⟨k', ep', sq', ak', b'⟩ := g
  simp only [frSame, Bool.and_eq_true, beq_iff_eq, Fr.mk.injEq, and_assoc]
  have e : b.toList = b'.toList ↔ b = b' := ⟨fun h => by
    rw [Lib.toList_data, Lib.toList_data] at h
    apply ByteArray.ext; exact Array.toList_inj.1 h, fun h => by rw [h]⟩
  rw [e]
set_option maxRecDepth 100000 in
set_option maxHeartbeats 2000000 in
theorem Same_any (f g : Fr) (w : World) : Calls Tryd.prog 13 #[f.val, g.val] w fun e w' => e = .returned (.bool (frSame f g)) ∧ Below w.heap.size w w' := by
  obtain ⟨k, ep, sq, ak, b⟩ := f
  obtain ⟨k', ep', sq', ak', b'⟩ := g
  unfold Link.Fr.val
  go_enter Tryd.func13, Tryd.ntmps13
  go_wp2_with fail
  all_goals
    go_ret
    exact ⟨ret_bool (by simp [frSame, *]), ((Below.refl w.heap.size w).alloc (Nat.le_refl _) _).alloc (by simp) _⟩
end Go.Proofs.YtffejniibljjeaaDoor.Frame
