/- Layer 6: Get and Why answer as the plain get and why. Conditions: the table of layer 5 and the variable of package errors are laid. -/
import Derived.Test.YtihhflajkohibaaGreatDoorFrMany
namespace Go.Proofs.YtihhflajkohibaaGreatDoor.Frame
set_option linter.unusedSimpArgs false
set_option linter.unusedVariables false
set_option maxRecDepth 100000
open Go.RowKit
open Go.Proofs.YtihhflajkohibaaGreatDoor
open Go.Proofs.YtihhflajkohibaaGreatDoor.Link (Fr right_is right_any frBox bcell ret_bool empty_size)

theorem ErrAt.below {w w' : World} (h : ErrAt w) {B : Nat} (hb : Below B w w') (hB : 0 < B) : ErrAt w' := (hb.cell (p := ⟨0, 0, none⟩) hB).trans h
theorem ErrAt.pos {w : World} (h : ErrAt w) : 0 < w.heap.size := by
  rcases Nat.lt_or_ge 0 w.heap.size with h0 | h0
  · exact h0
  · have e : w.heap[0]? = Option.none := Array.getElem?_eq_none h0
    simp [ErrAt, World.cell?, e] at h
theorem length_size (s : ByteArray) : s.data.toList.length = s.size := by simp
/-- get of bytes where something is wrong -/
theorem get_bad (s : ByteArray) (w : World) (hs : s.size ≤ maxLen) (ht : TabAt w) (h : (why s.data.toList).2 ≠ 0) : Calls Tryz.prog 74 #[.string s] w (Bad w (why s.data.toList).1 (why s.data.toList).2) := by
  have hl := length_size s
  unfold why at h ⊢
  rw [hl] at h ⊢
  by_cases h1 : s.size < 27
  · rw [if_pos h1]; exact get_short s w h1
  rw [if_neg h1] at h ⊢
  have hm : s.size = (s.size - 27) + 27 := by omega
  by_cases h2 : s.data.toList.getD 0 0 ≠ 78
  · rw [if_pos h2]; exact get_magic hm rfl hs h2
  rw [if_neg h2] at h ⊢
  have h2 : s.data.toList.getD 0 0 = 78 := Decidable.not_not.1 h2
  by_cases h3 : s.data.toList.getD 1 0 ≠ 1
  · rw [if_pos h3]; exact get_version hm rfl hs h2 h3
  rw [if_neg h3] at h ⊢
  have h3 : s.data.toList.getD 1 0 = 1 := Decidable.not_not.1 h3
  by_cases h4 : num (sub s.data.toList 21 2) ≠ s.size - 27
  · rw [if_pos h4]; exact get_length hm rfl hs h2 h3 h4
  rw [if_neg h4] at h ⊢
  have h4 : num (sub s.data.toList 21 2) = s.size - 27 := Decidable.not_not.1 h4
  by_cases h5 : Crc.isGood s.data.toList = false
  · rw [if_pos h5]; exact get_sum hm rfl hs ht h2 h3 h4 h5
  rw [if_neg h5] at h ⊢
  have h5 : Crc.isGood s.data.toList = true := by simpa using h5
  by_cases h6 : (parts s.data.toList).right = false
  · rw [if_pos h6]; exact (get_parts hm rfl hs ht h2 h3 h4 h5).mono fun e w' hh => hh.2 h6
  rw [if_neg h6] at h
  exact absurd rfl h
theorem get_fine (s : ByteArray) (w : World) (hs : s.size ≤ maxLen) (ht : TabAt w) (h : (why s.data.toList).2 = 0) : Calls Tryz.prog 74 #[.string s] w fun e w' => e = .returned (.tuple #[Link.Fr.val (get s.data.toList), .nilIface]) ∧ Below w.heap.size w w' := by
  have k := fine_of h
  have hl := length_size s
  have hlen := k.len
  have hsz := k.size
  rw [hl] at hlen hsz
  have e : get s.data.toList = parts s.data.toList := by unfold get; rw [if_pos h]
  rw [e]
  exact (get_parts (by omega) rfl hs ht k.magic k.version hsz k.good).mono fun e w' hh => hh.1 k.right
/-- how Get ends -/
theorem Get_end (t : Array Value) (F : World) (X : Nat) {k ep sq ak b E : Value} {post : Ending → World → Prop} (h2 : t[2]? = some (.pointer (some ⟨X, 0, none⟩))) (h3 : t[3]? = some E) (hX : F.heap[X]? = some (.cells #[k, ep, sq, ak, b] 83 (0, 0)))
    (hp : post (.returned (.tuple #[.agg #[k, ep, sq, ak, b], E])) F) : bodyPost Tryz.prog Tryz.f48 post .ret { tmps := t, defers := [] } F := by
  have x0 := cell_of_block hX 0
  have x1 := cell_of_block hX 1
  have x2 := cell_of_block hX 2
  have x3 := cell_of_block hX 3
  have x4 := cell_of_block hX 4
  simp at x0 x1 x2 x3 x4
  exact bodyPost_ret (v := .tuple #[.agg #[k, ep, sq, ak, b], E]) (by simp [results, Tryz.results48, go_sem, h2, h3, x0, x1, x2, x3, x4]) rfl hp
theorem noFr_val : Link.Fr.val noFr = .agg #[.int .i64 0, .int .i64 0, .int .u64 0, .int .u64 0, .string ⟨#[]⟩] := rfl
theorem ret_fe {v : Value} {n m : Int} (h : n = m) : Ending.returned (.tuple #[v, .int .i64 n]) = .returned (.tuple #[v, .int .i64 m]) := by rw [h]
set_option maxRecDepth 100000 in
set_option maxHeartbeats 2000000 in
theorem Get_fine (s : ByteArray) (w : World) (hs : s.size ≤ maxLen) (ht : TabAt w) (h : (why s.data.toList).2 = 0) : Calls Tryz.prog 48 #[.string s] w fun e w' => e = .returned (.tuple #[Link.Fr.val (get s.data.toList), .int .i64 (why s.data.toList).2]) ∧ Below w.heap.size w w' := by
  have hb0 : Below w.heap.size w (w.alloc (.cells zeros 83)) := (Below.refl _ _).alloc (Nat.le_refl _) _
  have ht0 := ht.below hb0 ht.pos
  obtain ⟨k, ep, sq, ak, b, hf⟩ : ∃ k ep sq ak b, get s.data.toList = ⟨k, ep, sq, ak, b⟩ := ⟨_, _, _, _, _, rfl⟩
  have hg := get_fine s _ hs ht0 h
  have HB0 := Lib.hid hb0
  rw [hf] at hg ⊢
  rw [h]
  have HG := Lib.hid hg
  clear h hg hf hb0 ht0
  go_enter Tryz.func48, Tryz.ntmps48
  go_wp2_with fail
  refine (HG.out).mono ?_
  rintro e v ⟨rfl, hb⟩
  have hX : v.heap[w.heap.size]? = some (.cells zeros 83 (0, 0)) := (hb.block w.heap.size (by simp)).trans (heap_alloc_new w _)
  have hbw : Below w.heap.size w v := HB0.out.trans (hb.mono (by simp))
  have x0 := cell_of_block hX 0
  have x1 := cell_of_block hX 1
  have x2 := cell_of_block hX 2
  have x3 := cell_of_block hX 3
  have x4 := cell_of_block hX 4
  simp [zeros] at x0 x1 x2 x3 x4
  have y0 := frozen_of_block hX 0
  have y1 := frozen_of_block hX 1
  have y2 := frozen_of_block hX 2
  have y3 := frozen_of_block hX 3
  have y4 := frozen_of_block hX 4
  have hlt := lt_of_block hX
  have hsz : w.heap.size ≤ v.heap.size := Nat.le_of_lt hlt
  unfold Link.Fr.val
  go_wp2_with (go_at_call 75; refine (as_nil _ _).mono ?_; rintro e w' ⟨rfl, rfl⟩)
  have hq := stored5 hX (.int .i64 k) (.int .i64 ep) (.int .u64 sq) (.int .u64 ak) (.string b) (.cells #[.int .i64 k, .int .i64 ep, .int .u64 sq, .int .u64 ak, .string b] 83)
  have hbq := hbw.trans (stored_below (v := v) (X := w.heap.size) (Nat.le_refl _) hsz (.int .i64 k) (.int .i64 ep) (.int .u64 sq) (.int .u64 ak) (.string b) (.cells #[.int .i64 k, .int .i64 ep, .int .u64 sq, .int .u64 ak, .string b] 83))
  exact Get_end _ _ w.heap.size rfl rfl ((Below.heap_alloc _ _ _ (lt_of_block hq)).trans hq) ⟨rfl, hbq.alloc hbq.size _⟩
set_option maxRecDepth 100000 in
set_option maxHeartbeats 2000000 in
theorem Get_bad (s : ByteArray) (w : World) (hs : s.size ≤ maxLen) (ht : TabAt w) (hg : ErrAt w) (h : (why s.data.toList).2 ≠ 0) : Calls Tryz.prog 48 #[.string s] w fun e w' => e = .returned (.tuple #[Link.Fr.val (get s.data.toList), .int .i64 (why s.data.toList).2]) ∧ Below w.heap.size w w' := by
  have hb0 : Below w.heap.size w (w.alloc (.cells zeros 83)) := (Below.refl _ _).alloc (Nat.le_refl _) _
  have ht0 := ht.below hb0 ht.pos
  rw [get_none h]
  have hgb := get_bad s _ hs ht0 h
  have HB0 := Lib.hid hb0
  generalize (why s.data.toList).2 = no at *
  generalize (why s.data.toList).1 = at_ at *
  have HG := Lib.hid hgb
  clear h hgb hb0 ht0
  go_enter Tryz.func48, Tryz.ntmps48
  go_wp2_with fail
  refine (HG.out).mono ?_
  rintro e wg ⟨g, rfl, hf, hge, hb⟩
  have hX : wg.heap[w.heap.size]? = some (.cells zeros 83 (0, 0)) := (hb.block w.heap.size (by simp)).trans (heap_alloc_new w _)
  have hbw : Below w.heap.size w wg := HB0.out.trans (hb.mono (by simp))
  have hgv : ErrAt wg := hg.below hbw hg.pos
  have hXl := lt_of_block hX
  have HX := Lib.hid hX
  rw [noFr_val]
  have hb1 : Below wg.heap.size wg (wg.alloc (.cells zeros 83)) := (Below.refl _ _).alloc (Nat.le_refl _) _
  have hb2 : Below wg.heap.size wg ((wg.alloc (.cells zeros 83)).alloc (.cells #[.int .i64 0] 39)) := hb1.alloc hb1.size _
  have hT : ((wg.alloc (.cells zeros 83)).alloc (.cells #[.int .i64 0] 39)).heap[wg.heap.size + 1]? = some (.cells #[.int .i64 0] 39 (0, 0)) := by
    have h := heap_alloc_new (wg.alloc (.cells zeros 83)) (.cells #[.int .i64 0] 39)
    simpa using h
  have hX2 : ((wg.alloc (.cells zeros 83)).alloc (.cells #[.int .i64 0] 39)).heap[w.heap.size]? = some (.cells zeros 83 (0, 0)) := (hb2.block _ hXl).trans hX
  have HT := Lib.hid hT
  have HX2 := Lib.hid hX2
  have HB2 := Lib.hid (hbw.trans (hb2.mono (Nat.le_of_lt hXl)))
  have HGV := Lib.hid (hgv.below hb2 hgv.pos)
  have HF := Lib.hid ((hf.alloc (.cells zeros 83)).alloc (.cells #[.int .i64 0] 39))
  clear hT hX2 hX hb1 hb2 hgv hf
  go_wp2_with fail
  refine (as_errno g at_ (wg.heap.size + 1) no _ HGV.out HF.out HT.out).mono ?_
  rintro e v2 ⟨rfl, hT2, hk⟩
  have hX : v2.heap[w.heap.size]? = some (.cells zeros 83 (0, 0)) := (hk.block _ (lt_of_block HX2.out) (by simp; omega)).trans HX2.out
  have hb2 : Below w.heap.size w v2 := HB2.out.trans (hk.below (B := w.heap.size) (by have := HB2.out.size; omega) (by simp; omega))
  have x0 := cell_of_block hX 0
  have x1 := cell_of_block hX 1
  have x2 := cell_of_block hX 2
  have x3 := cell_of_block hX 3
  have x4 := cell_of_block hX 4
  simp [zeros] at x0 x1 x2 x3 x4
  have y0 := frozen_of_block hX 0
  have y1 := frozen_of_block hX 1
  have y2 := frozen_of_block hX 2
  have y3 := frozen_of_block hX 3
  have y4 := frozen_of_block hX 4
  have hlt := lt_of_block hX
  have t0 := cell_of_block hT2 0
  simp at t0
  have HR0 := Lib.hid (show v2.drew.heap[w.heap.size]? = some (.cells zeros 83 (0, 0)) ∧ v2.drew.cell? ⟨wg.heap.size + 1, 0, none⟩ = some (.int .i64 no) ∧ Below w.heap.size w v2.drew from ⟨hX, t0, below_drewN hb2 1⟩)
  go_wp2_with fail
  refine' wp_flow [only 0 _, only 1 _, only 2 (undef), only 3 _] (fun z => z.heap[w.heap.size]? = some (.cells zeros 83 (0, 0)) ∧ z.cell? ⟨wg.heap.size + 1, 0, Option.none⟩ = some (.int .i64 no) ∧ Below w.heap.size w z) [[], [], [0], [1]] [[], [], [], []] [[], [], [], []] [[], [], [], []] [] [0, 0, 1, 7] _ (fun us => ?hfr) (by kernel_rfl) (by kernel_rfl) (by kernel_rfl) ⟨only_still _, only_still _, only_still _, only_still _, trivial⟩ (HR0.out) (by simp) (trivial) ?hst ?hla
  case hfr => (simp only [List.cons_append, List.nil_append, putAll, Act.put, List.setIfInBounds_toArray, List.set_cons_zero, List.set_cons_succ, Nat.reduceAdd]; rfl)
  case hst =>
    refine ⟨?_, ?_, ?_, ?_, trivial⟩
    · intro us v hR hn ho K hK
      clear ho
      obtain ⟨r1, r2, r3⟩ := id hR
      rw [if_pos (by rfl)]
      go_simp
      refine hK _ _ _ (by simp only [Act.put, List.setIfInBounds_toArray, List.set_cons_zero, List.set_cons_succ, Nat.reduceAdd] <;> rfl) ?_ hR trivial
      refine only_mk (v := v) ?_
      with_reducible rfl
    · intro us v hR hn ho K hK
      clear ho
      obtain ⟨r1, r2, r3⟩ := id hR
      rw [if_pos (by rfl)]
      go_simp
      refine hK _ _ _ (by simp only [Act.put, List.setIfInBounds_toArray, List.set_cons_zero, List.set_cons_succ, Nat.reduceAdd] <;> rfl) ?_ hR trivial
      refine only_mk (v := v) ?_
      with_reducible rfl
    · intro us v hR hn ho K hK
      obtain ⟨n0, -⟩ := hn
      have n0 : us 0 = _ := n0
      clear ho
      obtain ⟨r1, r2, r3⟩ := id hR
      have z0 := cell_of_block r1 0
      have z1 := cell_of_block r1 1
      have z2 := cell_of_block r1 2
      have z3 := cell_of_block r1 3
      have z4 := cell_of_block r1 4
      simp [zeros] at z0 z1 z2 z3 z4
      have f0 := frozen_of_block r1 0
      have f1 := frozen_of_block r1 1
      have f2 := frozen_of_block r1 2
      have f3 := frozen_of_block r1 3
      have f4 := frozen_of_block r1 4
      rw [if_pos (by rfl)]
      go_simp
      exact hK undef _ _ (by simp only [Act.put, List.setIfInBounds_toArray, List.set_cons_zero, List.set_cons_succ, Nat.reduceAdd, n0] <;> rfl) rfl ⟨stored5' r1 _ _ _ _ _, (World.cell?_of_block (a := ⟨wg.heap.size + 1, 0, none⟩) (stored_far (by show wg.heap.size + 1 ≠ _; omega) _ _ _ _ _)).trans r2, r3.trans (stored_below' (Nat.le_refl _) _ _ _ _ _)⟩ trivial
    · intro us v hR hn ho K hK
      obtain ⟨n1, -⟩ := hn
      have n1 : us 1 = _ := n1
      clear ho
      obtain ⟨r1, r2, r3⟩ := id hR
      rw [if_pos (by rfl)]
      go_simp
      refine hK _ _ _ (by simp only [Act.put, List.setIfInBounds_toArray, List.set_cons_zero, List.set_cons_succ, Nat.reduceAdd, n1] <;> rfl) ?_ hR trivial
      refine only_mk (v := v) ?_
      with_reducible rfl
  case hla =>
    intro us v hR hl
    obtain ⟨n0, n1, n2, n3, -⟩ := need_last hl [0, 1, 2, 3] (by kernel_rfl)
    have n0 : us 0 = _ := n0
    have n1 : us 1 = _ := n1
    have n2 : us 2 = _ := n2
    have n3 : us 3 = _ := n3
    obtain ⟨r1, r2, r3⟩ := id hR
    simp only [n0, n1, n2, n3]
    clear hl n0 n1 n2 n3
    go_wp2_with fail
    exact Get_end _ _ w.heap.size rfl rfl r1 ⟨rfl, r3⟩
theorem Get_any (s : ByteArray) (w : World) (hs : s.size ≤ maxLen) (ht : TabAt w) (hg : ErrAt w) : Calls Tryz.prog 48 #[.string s] w fun e w' => e = .returned (.tuple #[Link.Fr.val (get s.data.toList), .int .i64 (why s.data.toList).2]) ∧ Below w.heap.size w w' := by
  by_cases h : (why s.data.toList).2 = 0
  · exact Get_fine s w hs ht h
  · exact Get_bad s w hs ht hg h
end Go.Proofs.YtihhflajkohibaaGreatDoor.Frame
