/- Layer 6: the reference Get answers as the plain get and why. No conditions but the bytes' size. -/
import Derived.Test.YtihhflajkohibaaGreatDoorFrameY
namespace Go.Proofs.YtihhflajkohibaaGreatDoor.Frame
set_option linter.unusedSimpArgs false
set_option linter.unusedVariables false
set_option maxRecDepth 100000
open Go.RowKit
open Go.Proofs.YtihhflajkohibaaGreatDoor
open Go.Proofs.YtihhflajkohibaaGreatDoor.Link (Fr right_is right_any frBox bcell ret_bool empty_size)

/-- how the reference's Get ends -/
theorem ref_end (t : Array Value) (F : World) (X : Nat) {k ep sq ak b E E' : Value} {post : Ending → World → Prop} (h2 : t[2]? = some (.pointer (some ⟨X, 0, none⟩))) (h3 : t[3]? = some E) (h4 : t[4]? = some E') (hX : F.heap[X]? = some (.cells #[k, ep, sq, ak, b] 83 (0, 0)))
    (hp : post (.returned (.tuple #[.agg #[k, ep, sq, ak, b], E, E'])) F) : bodyPost Tryz.prog Tryz.f51 post .ret { tmps := t, defers := [] } F := by
  have x0 := cell_of_block hX 0
  have x1 := cell_of_block hX 1
  have x2 := cell_of_block hX 2
  have x3 := cell_of_block hX 3
  have x4 := cell_of_block hX 4
  simp at x0 x1 x2 x3 x4
  exact bodyPost_ret (v := .tuple #[.agg #[k, ep, sq, ak, b], E, E']) (by simp [results, Tryz.results51, go_sem, h2, h3, h4, x0, x1, x2, x3, x4]) rfl hp
theorem refRight_is (f : Fr) (r : Bool) (h : f.right = r) (w : World) : Calls Tryz.prog 42 #[f.val] w fun e w' => e = .returned (.bool r) ∧ Below w.heap.size w w' := by subst h; exact refRight_any f w
theorem number_is2 (s : ByteArray) (N : Int) (hs : s.size ≤ 8) (hN : N = numI s.data.toList) (w : World) :
    Calls Tryz.prog 77 #[.string s] w fun e w' => e = .returned (.int .u64 N) ∧ w = w' := by
  subst hN; exact number_ref s w hs
theorem two_zeros (w : World) : ((w.alloc (.cells zeros 83)).alloc (.cells zeros 83)).heap[w.heap.size]? = some (.cells zeros 83 (0, 0)) := (Below.heap_alloc _ _ _ (by simp)).trans (heap_alloc_new w _)
/-- the answer -/
def Ans (w : World) (L : List UInt8) (e : Ending) (w' : World) : Prop := e = .returned (.tuple #[Link.Fr.val (get L), .int .i64 ((why L).1 : Int), .int .i64 (why L).2]) ∧ Below w.heap.size w w'
theorem ans_bad {w w' : World} {L : List UInt8} {a : Nat} {n : Int} (h : why L = (a, n)) (hn : n ≠ 0) {v : Value} (hv : v = .tuple #[Link.Fr.val noFr, .int .i64 (a : Int), .int .i64 n]) (hb : Below w.heap.size w w') : Ans w L (.returned v) w' := by
  subst hv
  refine ⟨?_, hb⟩
  rw [get_none (by rw [h]; exact hn), h]
theorem mid_size (s : ByteArray) (a b : Nat) : (s.extract a b).data.toList = (s.data.toList.drop a).take (b - a) := Lib.extract_data s a b
section
variable {s : ByteArray} {w : World}
set_option maxRecDepth 100000 in
set_option maxHeartbeats 1000000 in
theorem ref_short (hs : s.size < 27) : Calls Tryz.prog 51 #[.string s] w (Ans w s.data.toList) := by
  have hl := length_size s
  have hy : why s.data.toList = (s.size, 61) := by unfold why; rw [hl, if_pos hs]
  have HY := Lib.hid hy
  have hd : decide ((s.size : Int) < 27) = true := by simp; omega
  clear hl hy
  go_enter Tryz.func51, Tryz.ntmps51
  go_wp2_with fail
  exact ref_end _ _ w.heap.size rfl rfl rfl (two_zeros w) (ans_bad HY.out (by decide) rfl (((Below.refl _ _).alloc (Nat.le_refl _) _).alloc (by simp) _))
set_option maxRecDepth 100000 in
set_option maxHeartbeats 1000000 in
theorem ref_magic (hs : 27 ≤ s.size) (h0 : s.data.toList.getD 0 0 ≠ 78) : Calls Tryz.prog 51 #[.string s] w (Ans w s.data.toList) := by
  have hl := length_size s
  have hy : why s.data.toList = (0, 62) := by unfold why; rw [hl, if_neg (by omega), if_pos h0]
  have HY := Lib.hid hy
  have hd : decide ((s.size : Int) < 27) = false := by simp; omega
  have p0 : 0 < s.size := by omega
  rw [byte_at s 0 p0] at h0
  have d0 := byte_ne (n := 78) rfl h0
  clear hl hy h0
  go_enter Tryz.func51, Tryz.ntmps51
  go_wp2_with fail
  exact ref_end _ _ w.heap.size rfl rfl rfl (two_zeros w) (ans_bad HY.out (by decide) rfl (((Below.refl _ _).alloc (Nat.le_refl _) _).alloc (by simp) _))
set_option maxRecDepth 100000 in
set_option maxHeartbeats 1000000 in
theorem ref_version (hs : 27 ≤ s.size) (h0 : s.data.toList.getD 0 0 = 78) (h1 : s.data.toList.getD 1 0 ≠ 1) : Calls Tryz.prog 51 #[.string s] w (Ans w s.data.toList) := by
  have hl := length_size s
  have hy : why s.data.toList = (1, 63) := by unfold why; rw [hl, if_neg (by omega), if_neg (by simpa using h0), if_pos h1]
  have HY := Lib.hid hy
  have hd : decide ((s.size : Int) < 27) = false := by simp; omega
  have p0 : 0 < s.size := by omega
  have p1 : 1 < s.size := by omega
  rw [byte_at s 0 p0] at h0
  rw [byte_at s 1 p1] at h1
  have d0 := byte_eq' (n := 78) rfl h0
  have d1 := byte_ne (n := 1) rfl h1
  clear hl hy h0 h1
  go_enter Tryz.func51, Tryz.ntmps51
  go_wp2_with fail
  exact ref_end _ _ w.heap.size rfl rfl rfl (two_zeros w) (ans_bad HY.out (by decide) rfl (((Below.refl _ _).alloc (Nat.le_refl _) _).alloc (by simp) _))
set_option maxRecDepth 100000 in
set_option maxHeartbeats 4000000 in
theorem ref_rest (hs : 27 ≤ s.size) (hm : s.size ≤ maxLen) (h0 : s.data.toList.getD 0 0 = 78) (h1 : s.data.toList.getD 1 0 = 1) : Calls Tryz.prog 51 #[.string s] w (Ans w s.data.toList) := by
  have hl := length_size s
  obtain ⟨c, hc⟩ : ∃ c : Nat, c = s.size - 4 := ⟨_, rfl⟩
  obtain ⟨m, hmm⟩ : ∃ m : Nat, m = s.size - 27 := ⟨_, rfl⟩
  have hm' := hm
  unfold maxLen at hm
  have he1 : (s.size : Int) - 4 = (c : Int) := by omega
  have he2 : (c : Int) - 23 = (m : Int) := by omega
  have c0 : (0 : Int) ≤ (c : Int) := by omega
  have c1 : (c : Int) ≤ (s.size : Int) := by omega
  have hwm : IntKind.u64.wrap (m : Int) = (m : Int) := by rw [IntKind.wrap_u64]; omega
  have hd : decide ((s.size : Int) < 27) = false := by simp; omega
  have p0 : 0 < s.size := by omega
  have p1 : 1 < s.size := by omega
  have p2 : 2 < s.size := by omega
  have p2' : (2 : Int) < (s.size : Int) := by omega
  have g0 := h0
  have g1 := h1
  rw [byte_at s 0 p0] at h0
  rw [byte_at s 1 p1] at h1
  have d0 := byte_eq' (n := 78) rfl h0
  have d1 := byte_eq' (n := 1) rfl h1
  obtain ⟨Z, hZ⟩ : ∃ Z : ByteArray, Z = s.extract 21 23 := ⟨_, rfl⟩
  have hz : Z.data.toList = sub s.data.toList 21 2 := by rw [hZ, mid_size]; rfl
  have hzs : Z.size ≤ 8 := by rw [← length_size, hz]; unfold sub; rw [List.length_take]; omega
  have slZ : ∀ w, (Instr.slice 9 (.string s) (some (.int .i64 21)) (some (.int .i64 23)) Option.none).run Tryz.prog w = .ok (.string Z) w := fun w => by
    have h := slice_mid Tryz.underlying9 s 21 23 (by omega) (by omega) w
    rw [hZ]; exact h
  obtain ⟨N, hN⟩ : ∃ N, N = numI Z.data.toList := ⟨_, rfl⟩
  have HN := Lib.hid hN
  have HZS := Lib.hid hzs
  have hy4 : num (sub s.data.toList 21 2) ≠ m → why s.data.toList = (21, 64) := fun h => by
    unfold why
    rw [hl, if_neg (by omega), if_neg (by simpa using g0), if_neg (by simpa using g1), if_pos (by rw [← hmm]; exact h)]
  have hy5 : num (sub s.data.toList 21 2) = m → Crc.isGood s.data.toList = false → why s.data.toList = (c, 65) := fun h k => by
    unfold why
    rw [hl, if_neg (by omega), if_neg (by simpa using g0), if_neg (by simpa using g1), if_neg (by rw [← hmm]; simpa using h), if_pos k, hc]
  have hy6 : num (sub s.data.toList 21 2) = m → Crc.isGood s.data.toList = true → (parts s.data.toList).right = false → why s.data.toList = (2, 66) := fun h k r => by
    unfold why
    rw [hl, if_neg (by omega), if_neg (by simpa using g0), if_neg (by simpa using g1), if_neg (by rw [← hmm]; simpa using h), if_neg (by simpa using k), if_pos r]
  have hy7 : num (sub s.data.toList 21 2) = m → Crc.isGood s.data.toList = true → (parts s.data.toList).right = true → why s.data.toList = (0, 0) := fun h k r => by
    unfold why
    rw [hl, if_neg (by omega), if_neg (by simpa using g0), if_neg (by simpa using g1), if_neg (by rw [← hmm]; simpa using h), if_neg (by simpa using k), if_neg (by simpa using r)]
  have HY4 := Lib.hid hy4
  have HY5 := Lib.hid hy5
  have HY6 := Lib.hid hy6
  have HY7 := Lib.hid hy7
  have hbW : Below w.heap.size w ((w.alloc (.cells zeros 83)).alloc (.cells zeros 83)) := ((Below.refl _ _).alloc (Nat.le_refl _) _).alloc (by simp) _
  have HBW := Lib.hid hbW
  have hX0 : ((w.alloc (.cells zeros 83)).alloc (.cells zeros 83)).heap[w.heap.size]? = some (.cells zeros 83 (0, 0)) := (Below.heap_alloc _ _ _ (by simp)).trans (heap_alloc_new w _)
  have hN0 : ((w.alloc (.cells zeros 83)).alloc (.cells zeros 83)).heap[w.heap.size + 1]? = some (.cells zeros 83 (0, 0)) := by
    have h := heap_alloc_new (w.alloc (.cells zeros 83)) (.cells zeros 83)
    simpa using h
  have HX0 := Lib.hid hX0
  have HN0 := Lib.hid hN0
  have hNz : N = ((num (sub s.data.toList 21 2) : Nat) : Int) := by rw [hN, hz]; rfl
  by_cases h2 : num (sub s.data.toList 21 2) = m
  · have d2 : (N != (m : Int)) = false := by rw [hNz]; exact len_eq h2
    have HH2 := Lib.hid h2
    obtain ⟨T, hT⟩ : ∃ T : ByteArray, T = s.extract c s.size := ⟨_, rfl⟩
    obtain ⟨H, hH⟩ : ∃ H : ByteArray, H = s.extract 0 c := ⟨_, rfl⟩
    have slT : ∀ w, (Instr.slice 9 (.string s) (some (.int .i64 (c : Int))) Option.none Option.none).run Tryz.prog w = .ok (.string T) w := fun w => by
      rw [run_slice_string_from_if w 9 s .i64 _ Tryz.underlying9, if_pos ⟨by omega, by omega⟩, hT]; rfl
    have slH : ∀ w, (Instr.slice 9 (.string s) Option.none (some (.int .i64 (c : Int))) Option.none).run Tryz.prog w = .ok (.string H) w := fun w => by
      rw [hH]; exact slice_to Tryz.underlying9 s c (by omega) w
    have hHl : H.data.toList = s.data.toList.take c := by rw [hH, mid_size]; simp
    have hTl : T.data.toList = s.data.toList.drop c := by rw [hT, mid_size, List.take_of_length_le (by rw [List.length_drop, hl]; exact Nat.le_refl _)]
    have hHs : H.size ≤ maxLen := by
      rw [← length_size, hHl, List.length_take, hl]; unfold maxLen; omega
    obtain ⟨TL, hTL⟩ : ∃ TL : ByteArray, TL = ⟨(Crc.tail (Crc.sum H.data.toList)).toArray⟩ := ⟨_, rfl⟩
    have hq : (T.toList == TL.toList) = Crc.isGood s.data.toList := by
      unfold Crc.isGood
      rw [Lib.toList_data, Lib.toList_data, hTl, hTL, hHl, hl, ← hc, decide_eq_true (by omega)]
      simp
    have HH := Lib.hid hHs
    have HTL := Lib.hid hTL
    obtain ⟨E3, hE3⟩ : ∃ E, E = numI (sub s.data.toList 3 2) := ⟨_, rfl⟩
    obtain ⟨E5, hE5⟩ : ∃ E, E = numI (sub s.data.toList 5 8) := ⟨_, rfl⟩
    obtain ⟨E13, hE13⟩ : ∃ E, E = numI (sub s.data.toList 13 8) := ⟨_, rfl⟩
    obtain ⟨P3, hP3⟩ : ∃ P : ByteArray, P = s.extract 3 5 := ⟨_, rfl⟩
    obtain ⟨P5, hP5⟩ : ∃ P : ByteArray, P = s.extract 5 13 := ⟨_, rfl⟩
    obtain ⟨P13, hP13⟩ : ∃ P : ByteArray, P = s.extract 13 21 := ⟨_, rfl⟩
    obtain ⟨B, hB⟩ : ∃ P : ByteArray, P = s.extract 23 c := ⟨_, rfl⟩
    have sl3 : ∀ w, (Instr.slice 9 (.string s) (some (.int .i64 3)) (some (.int .i64 5)) Option.none).run Tryz.prog w = .ok (.string P3) w := fun w => by
      have h := slice_mid Tryz.underlying9 s 3 5 (by omega) (by omega) w
      rw [hP3]; exact h
    have sl5 : ∀ w, (Instr.slice 9 (.string s) (some (.int .i64 5)) (some (.int .i64 13)) Option.none).run Tryz.prog w = .ok (.string P5) w := fun w => by
      have h := slice_mid Tryz.underlying9 s 5 13 (by omega) (by omega) w
      rw [hP5]; exact h
    have sl13 : ∀ w, (Instr.slice 9 (.string s) (some (.int .i64 13)) (some (.int .i64 21)) Option.none).run Tryz.prog w = .ok (.string P13) w := fun w => by
      have h := slice_mid Tryz.underlying9 s 13 21 (by omega) (by omega) w
      rw [hP13]; exact h
    have slB : ∀ w, (Instr.slice 9 (.string s) (some (.int .i64 23)) (some (.int .i64 (c : Int))) Option.none).run Tryz.prog w = .ok (.string B) w := fun w => by
      have h := slice_mid Tryz.underlying9 s 23 c (by omega) (by omega) w
      rw [hB]; exact h
    have l3 : P3.data.toList = sub s.data.toList 3 2 := by rw [hP3, mid_size]; rfl
    have l5 : P5.data.toList = sub s.data.toList 5 8 := by rw [hP5, mid_size]; rfl
    have l13 : P13.data.toList = sub s.data.toList 13 8 := by rw [hP13, mid_size]; rfl
    have z3 : P3.size ≤ 8 := by rw [← length_size, l3]; unfold sub; rw [List.length_take]; omega
    have z5 : P5.size ≤ 8 := by rw [← length_size, l5]; unfold sub; rw [List.length_take]; omega
    have z13 : P13.size ≤ 8 := by rw [← length_size, l13]; unfold sub; rw [List.length_take]; omega
    have HP3 := Lib.hid z3
    have HP5 := Lib.hid z5
    have HP13 := Lib.hid z13
    have HE3 := Lib.hid (show E3 = numI P3.data.toList by rw [l3, hE3])
    have HE5 := Lib.hid (show E5 = numI P5.data.toList by rw [l5, hE5])
    have HE13 := Lib.hid (show E13 = numI P13.data.toList by rw [l13, hE13])
    have hw3 : IntKind.i64.wrap E3 = E3 := by
      have h1 := num_lt (sub s.data.toList 3 2)
      rw [sub_length _ _ _ (by omega)] at h1
      refine IntWalk.i64_in _ ?_
      rw [hE3]; unfold numI
      omega
    have hw2 : IntKind.i64.wrap (s[2].toNat : Int) = (s[2].toNat : Int) := IntWalk.i64_in _ (by have := s[2].toNat_lt; omega)
    have hpar : (⟨(s[2].toNat : Int), E3, E5, E13, B⟩ : Fr) = parts s.data.toList := by
      have hBl : B = ⟨(sub s.data.toList 23 (s.data.toList.length - 27)).toArray⟩ := by
        apply ByteArray.ext
        have e : B.data.toList = sub s.data.toList 23 (s.data.toList.length - 27) := by
          rw [hB, mid_size, hl, show c - 23 = s.size - 27 from by omega]; rfl
        rw [← e]
      unfold parts
      rw [hBl, hE3, hE5, hE13, byte_at s 2 p2]; rfl
    have HP := Lib.hid hpar
    cases hgood : Crc.isGood s.data.toList
    all_goals
      rw [hgood] at hq
      have HGD := Lib.hid hgood
      clear hgood hpar hE3 hE5 hE13 hP3 hP5 hP13 hB l3 l5 l13 z3 z5 z13 hT hH hHl hTl hHs hTL h2 hN hz hzs hZ hNz hy4 hy5 hy6 hy7 hX0 hN0 g0 g1 h0 h1 hc hmm hl hbW
      go_enter Tryz.func51, Tryz.ntmps51
      go_wp2_with fail
      with_reducible refine (number_is2 Z N HZS.out HN.out _).mono ?_
      rintro e v ⟨rfl, rfl⟩
      have HR0 := Lib.hid (show Below w.heap.size w ((w.alloc (.cells zeros 83)).alloc (.cells zeros 83)).drew ∧ ((w.alloc (.cells zeros 83)).alloc (.cells zeros 83)).drew.heap[w.heap.size]? = some (.cells zeros 83 (0, 0)) ∧ ((w.alloc (.cells zeros 83)).alloc (.cells zeros 83)).drew.heap[w.heap.size + 1]? = some (.cells zeros 83 (0, 0)) from ⟨HBW.out.drew, HX0.out, HN0.out⟩)
      go_wp2_with fail
    ·
      refine' wp_flow [only 0 _, only 1 _, only 2 _, only 3 _, only 4 _, only 5 _, only 6 (.int .u32 (val (Crc.sum H.data.toList))), only 7 (.string TL), only 8 _] (fun v => Below w.heap.size w v ∧ v.heap[w.heap.size]? = some (.cells zeros 83 (0, 0)) ∧ v.heap[w.heap.size + 1]? = some (.cells zeros 83 (0, 0))) [[], [], [0, 1], [], [], [3, 4], [5], [6], [2, 7]] [[], [], [], [], [], [], [], [], []] [[], [], [], [], [], [], [], [], []] [[], [], [], [], [], [], [], [], []] [] [0, 0, 3, 0, 0, 24, 56, 120, 255] _ (fun us => ?hfr) (by kernel_rfl) (by kernel_rfl) (by kernel_rfl) ⟨only_still _, only_still _, only_still _, only_still _, only_still _, only_still _, only_still _, only_still _, only_still _, trivial⟩ (HR0.out) (by simp) (trivial) ?hst ?hla
      case hfr => (simp only [List.cons_append, List.nil_append, putAll, Act.put, List.setIfInBounds_toArray, List.set_cons_zero, List.set_cons_succ, Nat.reduceAdd]; rfl)
      case hst =>
        refine ⟨?_, ?_, ?_, ?_, ?_, ?_, ?_, ?_, ?_, trivial⟩
        · intro us v hR hn ho K hK
          clear ho
          obtain ⟨r1, r2, r3⟩ := id hR
          rw [if_pos (by rfl)]
          go_simp
          refine hK _ _ _ (by simp only [Act.put, List.setIfInBounds_toArray, List.set_cons_zero, List.set_cons_succ, Nat.reduceAdd] <;> rfl) ?_ hR trivial
          refine only_mk (v := v) ?_
          with_reducible rfl
        · intro us v hR hn ho K hK
          clear ho
          obtain ⟨r1, r2, r3⟩ := id hR
          rw [if_pos (by rfl)]
          go_simp
          refine hK _ _ _ (by simp only [Act.put, List.setIfInBounds_toArray, List.set_cons_zero, List.set_cons_succ, Nat.reduceAdd] <;> rfl) ?_ hR trivial
          refine only_mk (v := v) ?_
          with_reducible rfl
        · intro us v hR hn ho K hK
          obtain ⟨n0, n1, -⟩ := hn
          have n0 : us 0 = _ := n0
          have n1 : us 1 = _ := n1
          clear ho
          obtain ⟨r1, r2, r3⟩ := id hR
          rw [if_pos (by rfl)]
          go_simp
          refine hK _ _ _ (by simp only [Act.put, List.setIfInBounds_toArray, List.set_cons_zero, List.set_cons_succ, Nat.reduceAdd, n0, n1] <;> rfl) ?_ hR trivial
          refine only_mk (v := v) ?_
          with_reducible rfl
        · intro us v hR hn ho K hK
          clear ho
          obtain ⟨r1, r2, r3⟩ := id hR
          rw [if_pos (by rfl)]
          go_simp
          refine hK _ _ _ (by simp only [Act.put, List.setIfInBounds_toArray, List.set_cons_zero, List.set_cons_succ, Nat.reduceAdd] <;> rfl) ?_ hR trivial
          refine only_mk (v := v) ?_
          with_reducible rfl
        · intro us v hR hn ho K hK
          clear ho
          obtain ⟨r1, r2, r3⟩ := id hR
          rw [if_pos (by rfl)]
          go_simp
          refine hK _ _ _ (by simp only [Act.put, List.setIfInBounds_toArray, List.set_cons_zero, List.set_cons_succ, Nat.reduceAdd] <;> rfl) ?_ hR trivial
          refine only_mk (v := v) ?_
          with_reducible rfl
        · intro us v hR hn ho K hK
          obtain ⟨n3, n4, -⟩ := hn
          have n3 : us 3 = _ := n3
          have n4 : us 4 = _ := n4
          clear ho
          obtain ⟨r1, r2, r3⟩ := id hR
          rw [if_pos (by rfl)]
          go_simp
          refine hK _ _ _ (by simp only [Act.put, List.setIfInBounds_toArray, List.set_cons_zero, List.set_cons_succ, Nat.reduceAdd, n3, n4] <;> rfl) ?_ hR trivial
          refine only_mk (v := v) ?_
          with_reducible rfl
        · intro us v hR hn ho K hK
          obtain ⟨n5, -⟩ := hn
          have n5 : us 5 = _ := n5
          clear ho
          obtain ⟨r1, r2, r3⟩ := id hR
          rw [if_pos (by rfl)]
          go_simp
          with_reducible refine (refSum_is H _ HH.out).mono ?_
          rintro e v' ⟨rfl, rfl⟩
          dsimp only
          exact hK _ _ _ (by simp only [Act.put, List.setIfInBounds_toArray, List.set_cons_zero, List.set_cons_succ, Nat.reduceAdd, n5] <;> rfl) rfl hR trivial
        · intro us v hR hn ho K hK
          obtain ⟨n6, -⟩ := hn
          have n6 : us 6 = _ := n6
          clear ho
          obtain ⟨r1, r2, r3⟩ := id hR
          rw [if_pos (by rfl)]
          go_simp
          with_reducible refine (refTail_is _ _ rfl TL HTL.out _).mono ?_
          rintro e v' ⟨rfl, hbr⟩
          dsimp only
          exact hK _ _ _ (by simp only [Act.put, List.setIfInBounds_toArray, List.set_cons_zero, List.set_cons_succ, Nat.reduceAdd, n6] <;> rfl) rfl ⟨r1.trans (hbr.mono r1.size), (hbr.block _ (lt_of_block r2)).trans r2, (hbr.block _ (lt_of_block r3)).trans r3⟩ trivial
        · intro us v hR hn ho K hK
          obtain ⟨n2, n7, -⟩ := hn
          have n2 : us 2 = _ := n2
          have n7 : us 7 = _ := n7
          clear ho
          obtain ⟨r1, r2, r3⟩ := id hR
          rw [if_pos (by rfl)]
          go_simp
          refine hK _ _ _ (by simp only [Act.put, List.setIfInBounds_toArray, List.set_cons_zero, List.set_cons_succ, Nat.reduceAdd, n2, n7] <;> rfl) ?_ hR trivial
          refine only_mk (v := v) ?_
          with_reducible rfl
      case hla =>
        intro us v hR hl
        obtain ⟨n0, n1, n2, n3, n4, n5, n6, n7, n8, -⟩ := need_last hl [0, 1, 2, 3, 4, 5, 6, 7, 8] (by kernel_rfl)
        have n0 : us 0 = _ := n0
        have n1 : us 1 = _ := n1
        have n2 : us 2 = _ := n2
        have n3 : us 3 = _ := n3
        have n4 : us 4 = _ := n4
        have n5 : us 5 = _ := n5
        have n6 : us 6 = _ := n6
        have n7 : us 7 = _ := n7
        have n8 : us 8 = _ := n8
        obtain ⟨r1, r2, r3⟩ := id hR
        simp only [n0, n1, n2, n3, n4, n5, n6, n7, n8]
        clear hl n0 n1 n2 n3 n4 n5 n6 n7 n8
        have hX := r2
        have hN := r3
        have x0 := cell_of_block hX 0
        have x1 := cell_of_block hX 1
        have x2 := cell_of_block hX 2
        have x3 := cell_of_block hX 3
        have x4 := cell_of_block hX 4
        simp [zeros] at x0 x1 x2 x3 x4
        have y0 := frozen_of_block hX 0
        have y1 := frozen_of_block hX 1
        have y2 := frozen_of_block hX 2
        have y3 := frozen_of_block hX 3
        have y4 := frozen_of_block hX 4
        have u0 := cell_of_block hN 0
        have u1 := cell_of_block hN 1
        have u2 := cell_of_block hN 2
        have u3 := cell_of_block hN 3
        have u4 := cell_of_block hN 4
        simp [zeros] at u0 u1 u2 u3 u4
        go_wp2_with fail
        refine ref_end _ _ w.heap.size rfl rfl rfl (stored5' hX _ _ _ _ _) (ans_bad (HY5.out HH2.out HGD.out) (by decide) rfl (r1.trans (stored_below' (Nat.le_refl _) _ _ _ _ _)))
    ·
      refine' wp_flow [only 0 _, only 1 _, only 2 _, only 3 _, only 4 _, only 5 _, only 6 (.int .u32 (val (Crc.sum H.data.toList))), only 7 (.string TL), only 8 _] (fun v => Below w.heap.size w v ∧ v.heap[w.heap.size]? = some (.cells zeros 83 (0, 0)) ∧ v.heap[w.heap.size + 1]? = some (.cells zeros 83 (0, 0))) [[], [], [0, 1], [], [], [3, 4], [5], [6], [2, 7]] [[], [], [], [], [], [], [], [], []] [[], [], [], [], [], [], [], [], []] [[], [], [], [], [], [], [], [], []] [] [0, 0, 3, 0, 0, 24, 56, 120, 255] _ (fun us => ?hfr) (by kernel_rfl) (by kernel_rfl) (by kernel_rfl) ⟨only_still _, only_still _, only_still _, only_still _, only_still _, only_still _, only_still _, only_still _, only_still _, trivial⟩ (HR0.out) (by simp) (trivial) ?hst ?hla
      case hfr => (simp only [List.cons_append, List.nil_append, putAll, Act.put, List.setIfInBounds_toArray, List.set_cons_zero, List.set_cons_succ, Nat.reduceAdd]; rfl)
      case hst =>
        refine ⟨?_, ?_, ?_, ?_, ?_, ?_, ?_, ?_, ?_, trivial⟩
        · intro us v hR hn ho K hK
          clear ho
          obtain ⟨r1, r2, r3⟩ := id hR
          rw [if_pos (by rfl)]
          go_simp
          refine hK _ _ _ (by simp only [Act.put, List.setIfInBounds_toArray, List.set_cons_zero, List.set_cons_succ, Nat.reduceAdd] <;> rfl) ?_ hR trivial
          refine only_mk (v := v) ?_
          with_reducible rfl
        · intro us v hR hn ho K hK
          clear ho
          obtain ⟨r1, r2, r3⟩ := id hR
          rw [if_pos (by rfl)]
          go_simp
          refine hK _ _ _ (by simp only [Act.put, List.setIfInBounds_toArray, List.set_cons_zero, List.set_cons_succ, Nat.reduceAdd] <;> rfl) ?_ hR trivial
          refine only_mk (v := v) ?_
          with_reducible rfl
        · intro us v hR hn ho K hK
          obtain ⟨n0, n1, -⟩ := hn
          have n0 : us 0 = _ := n0
          have n1 : us 1 = _ := n1
          clear ho
          obtain ⟨r1, r2, r3⟩ := id hR
          rw [if_pos (by rfl)]
          go_simp
          refine hK _ _ _ (by simp only [Act.put, List.setIfInBounds_toArray, List.set_cons_zero, List.set_cons_succ, Nat.reduceAdd, n0, n1] <;> rfl) ?_ hR trivial
          refine only_mk (v := v) ?_
          with_reducible rfl
        · intro us v hR hn ho K hK
          clear ho
          obtain ⟨r1, r2, r3⟩ := id hR
          rw [if_pos (by rfl)]
          go_simp
          refine hK _ _ _ (by simp only [Act.put, List.setIfInBounds_toArray, List.set_cons_zero, List.set_cons_succ, Nat.reduceAdd] <;> rfl) ?_ hR trivial
          refine only_mk (v := v) ?_
          with_reducible rfl
        · intro us v hR hn ho K hK
          clear ho
          obtain ⟨r1, r2, r3⟩ := id hR
          rw [if_pos (by rfl)]
          go_simp
          refine hK _ _ _ (by simp only [Act.put, List.setIfInBounds_toArray, List.set_cons_zero, List.set_cons_succ, Nat.reduceAdd] <;> rfl) ?_ hR trivial
          refine only_mk (v := v) ?_
          with_reducible rfl
        · intro us v hR hn ho K hK
          obtain ⟨n3, n4, -⟩ := hn
          have n3 : us 3 = _ := n3
          have n4 : us 4 = _ := n4
          clear ho
          obtain ⟨r1, r2, r3⟩ := id hR
          rw [if_pos (by rfl)]
          go_simp
          refine hK _ _ _ (by simp only [Act.put, List.setIfInBounds_toArray, List.set_cons_zero, List.set_cons_succ, Nat.reduceAdd, n3, n4] <;> rfl) ?_ hR trivial
          refine only_mk (v := v) ?_
          with_reducible rfl
        · intro us v hR hn ho K hK
          obtain ⟨n5, -⟩ := hn
          have n5 : us 5 = _ := n5
          clear ho
          obtain ⟨r1, r2, r3⟩ := id hR
          rw [if_pos (by rfl)]
          go_simp
          with_reducible refine (refSum_is H _ HH.out).mono ?_
          rintro e v' ⟨rfl, rfl⟩
          dsimp only
          exact hK _ _ _ (by simp only [Act.put, List.setIfInBounds_toArray, List.set_cons_zero, List.set_cons_succ, Nat.reduceAdd, n5] <;> rfl) rfl hR trivial
        · intro us v hR hn ho K hK
          obtain ⟨n6, -⟩ := hn
          have n6 : us 6 = _ := n6
          clear ho
          obtain ⟨r1, r2, r3⟩ := id hR
          rw [if_pos (by rfl)]
          go_simp
          with_reducible refine (refTail_is _ _ rfl TL HTL.out _).mono ?_
          rintro e v' ⟨rfl, hbr⟩
          dsimp only
          exact hK _ _ _ (by simp only [Act.put, List.setIfInBounds_toArray, List.set_cons_zero, List.set_cons_succ, Nat.reduceAdd, n6] <;> rfl) rfl ⟨r1.trans (hbr.mono r1.size), (hbr.block _ (lt_of_block r2)).trans r2, (hbr.block _ (lt_of_block r3)).trans r3⟩ trivial
        · intro us v hR hn ho K hK
          obtain ⟨n2, n7, -⟩ := hn
          have n2 : us 2 = _ := n2
          have n7 : us 7 = _ := n7
          clear ho
          obtain ⟨r1, r2, r3⟩ := id hR
          rw [if_pos (by rfl)]
          go_simp
          refine hK _ _ _ (by simp only [Act.put, List.setIfInBounds_toArray, List.set_cons_zero, List.set_cons_succ, Nat.reduceAdd, n2, n7] <;> rfl) ?_ hR trivial
          refine only_mk (v := v) ?_
          with_reducible rfl
      case hla =>
        intro us v hR hl
        obtain ⟨n0, n1, n2, n3, n4, n5, n6, n7, n8, -⟩ := need_last hl [0, 1, 2, 3, 4, 5, 6, 7, 8] (by kernel_rfl)
        have n0 : us 0 = _ := n0
        have n1 : us 1 = _ := n1
        have n2 : us 2 = _ := n2
        have n3 : us 3 = _ := n3
        have n4 : us 4 = _ := n4
        have n5 : us 5 = _ := n5
        have n6 : us 6 = _ := n6
        have n7 : us 7 = _ := n7
        have n8 : us 8 = _ := n8
        obtain ⟨r1, r2, r3⟩ := id hR
        simp only [n0, n1, n2, n3, n4, n5, n6, n7, n8]
        clear hl n0 n1 n2 n3 n4 n5 n6 n7 n8
        have HR1 := Lib.hid (show Below w.heap.size w v.drew ∧ v.drew.heap[w.heap.size]? = some (.cells zeros 83 (0, 0)) ∧ v.drew.heap[w.heap.size + 1]? = some (.cells zeros 83 (0, 0)) from ⟨r1.drew, r2, r3⟩)
        clear r1 r2 r3
        go_wp2_with fail
        refine' wp_flow [only 0 _, only 1 _, only 2 _, only 3 _, only 4 _, only 5 (.int .u64 E3), only 6 _, only 7 _, only 8 _, only 9 (.int .u64 E5), only 10 _, only 11 _, only 12 (.int .u64 E13), only 13 _, only 14 _, only 15 _, only 16 _, own 17 (fun x v => ∃ g, x = .pointer (some ⟨g, 0, none⟩) ∧ w.heap.size + 1 < g ∧ v.heap[g]? = some (.cells zeros 83 (0, 0))), (fun us v => ∃ g, us 17 = .pointer (some ⟨g, 0, none⟩) ∧ w.heap.size + 1 < g ∧ v.heap[g]? = some (.cells #[.int .i64 (s[2].toNat : Int), .int .i64 E3, .int .u64 E5, .int .u64 E13, .string B] 83 (0, 0)))] (fun v => Below w.heap.size w v ∧ v.heap[w.heap.size]? = some (.cells zeros 83 (0, 0)) ∧ v.heap[w.heap.size + 1]? = some (.cells zeros 83 (0, 0))) [[], [0], [1], [], [3], [4], [5], [], [7], [8], [], [10], [11], [], [], [13, 14], [2, 6, 9, 12, 15], [], [16, 17]] [[], [], [], [], [], [], [], [], [], [], [], [], [], [], [], [], [], [], [17]] [[], [], [], [], [], [], [], [], [], [], [], [], [], [], [], [], [], [], []] [[17], [17], [17], [17], [17], [17], [17], [17], [17], [17], [17], [17], [17], [17], [17], [17], [17], [], []] [17, 18] [0, 1, 3, 0, 8, 24, 56, 0, 128, 384, 0, 1024, 3072, 0, 0, 24576, 65535, 0, 262143] _ (fun us => ?hfr) (by kernel_rfl) (by kernel_rfl) (by kernel_rfl) ⟨only_still _, only_still _, only_still _, only_still _, only_still _, only_still _, only_still _, only_still _, only_still _, only_still _, only_still _, only_still _, only_still _, only_still _, only_still _, only_still _, only_still _, trivial, trivial, trivial⟩ (HR1.out) (by simp) (trivial) ?hst ?hla
        case hfr => (simp only [List.cons_append, List.nil_append, putAll, Act.put, List.setIfInBounds_toArray, List.set_cons_zero, List.set_cons_succ, Nat.reduceAdd]; rfl)
        case hst =>
          refine ⟨?_, ?_, ?_, ?_, ?_, ?_, ?_, ?_, ?_, ?_, ?_, ?_, ?_, ?_, ?_, ?_, ?_, ?_, ?_, trivial⟩
          · intro us v hR hn ho K hK
            clear ho
            obtain ⟨r1, r2, r3⟩ := id hR
            rw [if_pos (by rfl)]
            go_simp
            refine hK _ _ _ (by simp only [Act.put, List.setIfInBounds_toArray, List.set_cons_zero, List.set_cons_succ, Nat.reduceAdd] <;> rfl) ?_ hR ⟨fun h => h, trivial⟩
            refine only_mk (v := v) ?_
            with_reducible rfl
          · intro us v hR hn ho K hK
            obtain ⟨n0, -⟩ := hn
            have n0 : us 0 = _ := n0
            clear ho
            obtain ⟨r1, r2, r3⟩ := id hR
            rw [if_pos (by rfl)]
            go_simp
            refine hK _ _ _ (by simp only [Act.put, List.setIfInBounds_toArray, List.set_cons_zero, List.set_cons_succ, Nat.reduceAdd, n0] <;> rfl) ?_ hR ⟨fun h => h, trivial⟩
            refine only_mk (v := v) ?_
            with_reducible rfl
          · intro us v hR hn ho K hK
            obtain ⟨n1, -⟩ := hn
            have n1 : us 1 = _ := n1
            clear ho
            obtain ⟨r1, r2, r3⟩ := id hR
            rw [if_pos (by rfl)]
            go_simp
            refine hK _ _ _ (by simp only [Act.put, List.setIfInBounds_toArray, List.set_cons_zero, List.set_cons_succ, Nat.reduceAdd, n1] <;> rfl) ?_ hR ⟨fun h => h, trivial⟩
            refine only_mk (v := v) ?_
            with_reducible rfl
          · intro us v hR hn ho K hK
            clear ho
            obtain ⟨r1, r2, r3⟩ := id hR
            rw [if_pos (by rfl)]
            go_simp
            refine hK _ _ _ (by simp only [Act.put, List.setIfInBounds_toArray, List.set_cons_zero, List.set_cons_succ, Nat.reduceAdd] <;> rfl) ?_ hR ⟨fun h => h, trivial⟩
            refine only_mk (v := v) ?_
            with_reducible rfl
          · intro us v hR hn ho K hK
            obtain ⟨n3, -⟩ := hn
            have n3 : us 3 = _ := n3
            clear ho
            obtain ⟨r1, r2, r3⟩ := id hR
            rw [if_pos (by rfl)]
            go_simp
            refine hK _ _ _ (by simp only [Act.put, List.setIfInBounds_toArray, List.set_cons_zero, List.set_cons_succ, Nat.reduceAdd, n3] <;> rfl) ?_ hR ⟨fun h => h, trivial⟩
            refine only_mk (v := v) ?_
            with_reducible rfl
          · intro us v hR hn ho K hK
            obtain ⟨n4, -⟩ := hn
            have n4 : us 4 = _ := n4
            clear ho
            obtain ⟨r1, r2, r3⟩ := id hR
            rw [if_pos (by rfl)]
            go_simp
            with_reducible refine (number_is2 P3 E3 HP3.out HE3.out _).mono ?_
            rintro e v' ⟨rfl, rfl⟩
            dsimp only
            exact hK _ _ _ (by simp only [Act.put, List.setIfInBounds_toArray, List.set_cons_zero, List.set_cons_succ, Nat.reduceAdd, n4] <;> rfl) rfl hR ⟨fun ⟨g, h1, h2, h3⟩ => ⟨g, h1, h2, h3⟩, trivial⟩
          · intro us v hR hn ho K hK
            obtain ⟨n5, -⟩ := hn
            have n5 : us 5 = _ := n5
            clear ho
            obtain ⟨r1, r2, r3⟩ := id hR
            rw [if_pos (by rfl)]
            go_simp
            refine hK _ _ _ (by simp only [Act.put, List.setIfInBounds_toArray, List.set_cons_zero, List.set_cons_succ, Nat.reduceAdd, n5] <;> rfl) ?_ hR ⟨fun h => h, trivial⟩
            refine only_mk (v := v) ?_
            with_reducible rfl
          · intro us v hR hn ho K hK
            clear ho
            obtain ⟨r1, r2, r3⟩ := id hR
            rw [if_pos (by rfl)]
            go_simp
            refine hK _ _ _ (by simp only [Act.put, List.setIfInBounds_toArray, List.set_cons_zero, List.set_cons_succ, Nat.reduceAdd] <;> rfl) ?_ hR ⟨fun h => h, trivial⟩
            refine only_mk (v := v) ?_
            with_reducible rfl
          · intro us v hR hn ho K hK
            obtain ⟨n7, -⟩ := hn
            have n7 : us 7 = _ := n7
            clear ho
            obtain ⟨r1, r2, r3⟩ := id hR
            rw [if_pos (by rfl)]
            go_simp
            refine hK _ _ _ (by simp only [Act.put, List.setIfInBounds_toArray, List.set_cons_zero, List.set_cons_succ, Nat.reduceAdd, n7] <;> rfl) ?_ hR ⟨fun h => h, trivial⟩
            refine only_mk (v := v) ?_
            with_reducible rfl
          · intro us v hR hn ho K hK
            obtain ⟨n8, -⟩ := hn
            have n8 : us 8 = _ := n8
            clear ho
            obtain ⟨r1, r2, r3⟩ := id hR
            rw [if_pos (by rfl)]
            go_simp
            with_reducible refine (number_is2 P5 E5 HP5.out HE5.out _).mono ?_
            rintro e v' ⟨rfl, rfl⟩
            dsimp only
            exact hK _ _ _ (by simp only [Act.put, List.setIfInBounds_toArray, List.set_cons_zero, List.set_cons_succ, Nat.reduceAdd, n8] <;> rfl) rfl hR ⟨fun ⟨g, h1, h2, h3⟩ => ⟨g, h1, h2, h3⟩, trivial⟩
          · intro us v hR hn ho K hK
            clear ho
            obtain ⟨r1, r2, r3⟩ := id hR
            rw [if_pos (by rfl)]
            go_simp
            refine hK _ _ _ (by simp only [Act.put, List.setIfInBounds_toArray, List.set_cons_zero, List.set_cons_succ, Nat.reduceAdd] <;> rfl) ?_ hR ⟨fun h => h, trivial⟩
            refine only_mk (v := v) ?_
            with_reducible rfl
          · intro us v hR hn ho K hK
            obtain ⟨n10, -⟩ := hn
            have n10 : us 10 = _ := n10
            clear ho
            obtain ⟨r1, r2, r3⟩ := id hR
            rw [if_pos (by rfl)]
            go_simp
            refine hK _ _ _ (by simp only [Act.put, List.setIfInBounds_toArray, List.set_cons_zero, List.set_cons_succ, Nat.reduceAdd, n10] <;> rfl) ?_ hR ⟨fun h => h, trivial⟩
            refine only_mk (v := v) ?_
            with_reducible rfl
          · intro us v hR hn ho K hK
            obtain ⟨n11, -⟩ := hn
            have n11 : us 11 = _ := n11
            clear ho
            obtain ⟨r1, r2, r3⟩ := id hR
            rw [if_pos (by rfl)]
            go_simp
            with_reducible refine (number_is2 P13 E13 HP13.out HE13.out _).mono ?_
            rintro e v' ⟨rfl, rfl⟩
            dsimp only
            exact hK _ _ _ (by simp only [Act.put, List.setIfInBounds_toArray, List.set_cons_zero, List.set_cons_succ, Nat.reduceAdd, n11] <;> rfl) rfl hR ⟨fun ⟨g, h1, h2, h3⟩ => ⟨g, h1, h2, h3⟩, trivial⟩
          · intro us v hR hn ho K hK
            clear ho
            obtain ⟨r1, r2, r3⟩ := id hR
            rw [if_pos (by rfl)]
            go_simp
            refine hK _ _ _ (by simp only [Act.put, List.setIfInBounds_toArray, List.set_cons_zero, List.set_cons_succ, Nat.reduceAdd] <;> rfl) ?_ hR ⟨fun h => h, trivial⟩
            refine only_mk (v := v) ?_
            with_reducible rfl
          · intro us v hR hn ho K hK
            clear ho
            obtain ⟨r1, r2, r3⟩ := id hR
            rw [if_pos (by rfl)]
            go_simp
            refine hK _ _ _ (by simp only [Act.put, List.setIfInBounds_toArray, List.set_cons_zero, List.set_cons_succ, Nat.reduceAdd] <;> rfl) ?_ hR ⟨fun h => h, trivial⟩
            refine only_mk (v := v) ?_
            with_reducible rfl
          · intro us v hR hn ho K hK
            obtain ⟨n13, n14, -⟩ := hn
            have n13 : us 13 = _ := n13
            have n14 : us 14 = _ := n14
            clear ho
            obtain ⟨r1, r2, r3⟩ := id hR
            rw [if_pos (by rfl)]
            go_simp
            refine hK _ _ _ (by simp only [Act.put, List.setIfInBounds_toArray, List.set_cons_zero, List.set_cons_succ, Nat.reduceAdd, n13, n14] <;> rfl) ?_ hR ⟨fun h => h, trivial⟩
            refine only_mk (v := v) ?_
            with_reducible rfl
          · intro us v hR hn ho K hK
            obtain ⟨n2, n6, n9, n12, n15, -⟩ := hn
            have n2 : us 2 = _ := n2
            have n6 : us 6 = _ := n6
            have n9 : us 9 = _ := n9
            have n12 : us 12 = _ := n12
            have n15 : us 15 = _ := n15
            clear ho
            obtain ⟨r1, r2, r3⟩ := id hR
            rw [if_pos (by rfl)]
            go_simp
            refine hK _ _ _ (by simp only [Act.put, List.setIfInBounds_toArray, List.set_cons_zero, List.set_cons_succ, Nat.reduceAdd, n2, n6, n9, n12, n15] <;> rfl) ?_ hR ⟨fun h => h, trivial⟩
            refine only_mk (v := v) ?_
            with_reducible rfl
          · intro us v hR hn ho K hK
            clear ho
            obtain ⟨r1, r2, r3⟩ := id hR
            rw [if_pos (by rfl)]
            go_simp
            have hbr : Below v.heap.size v (v.alloc (.cells zeros 83)) := (Below.refl _ _).alloc (Nat.le_refl _) _
            exact hK _ _ _ (by simp only [Act.put, List.setIfInBounds_toArray, List.set_cons_zero, List.set_cons_succ, Nat.reduceAdd] <;> rfl) ⟨v.heap.size, rfl, lt_of_block r3, heap_alloc_new v _⟩ ⟨r1.trans (hbr.mono r1.size), (hbr.block _ (lt_of_block r2)).trans r2, (hbr.block _ (lt_of_block r3)).trans r3⟩ trivial
          · intro us v hR hn ho K hK
            obtain ⟨n16, n17, -⟩ := hn
            have n16 : us 16 = _ := n16
            clear ho
            obtain ⟨r1, r2, r3⟩ := id hR
            obtain ⟨g, e13, hg1, hg2⟩ := n17
            have z0 := cell_of_block hg2 0
            have z1 := cell_of_block hg2 1
            have z2 := cell_of_block hg2 2
            have z3 := cell_of_block hg2 3
            have z4 := cell_of_block hg2 4
            simp [zeros] at z0 z1 z2 z3 z4
            have f0 := frozen_of_block hg2 0
            have f1 := frozen_of_block hg2 1
            have f2 := frozen_of_block hg2 2
            have f3 := frozen_of_block hg2 3
            have f4 := frozen_of_block hg2 4
            rw [if_pos (by rfl)]
            go_simp
            exact hK undef _ _ (by simp only [Act.put, List.setIfInBounds_toArray, List.set_cons_zero, List.set_cons_succ, Nat.reduceAdd, n16, e13] <;> rfl) ⟨g, e13, hg1, stored5' hg2 _ _ _ _ _⟩ ⟨r1.trans (stored_below' (by omega) _ _ _ _ _), (stored_far (by omega) _ _ _ _ _).trans r2, (stored_far (by omega) _ _ _ _ _).trans r3⟩ trivial
        case hla =>
          intro us v hR hl
          obtain ⟨n0, n1, n2, n3, n4, n5, n6, n7, n8, n9, n10, n11, n12, n13, n14, n15, n16, n18, -⟩ := need_last hl [0, 1, 2, 3, 4, 5, 6, 7, 8, 9, 10, 11, 12, 13, 14, 15, 16, 18] (by kernel_rfl)
          have n0 : us 0 = _ := n0
          have n1 : us 1 = _ := n1
          have n2 : us 2 = _ := n2
          have n3 : us 3 = _ := n3
          have n4 : us 4 = _ := n4
          have n5 : us 5 = _ := n5
          have n6 : us 6 = _ := n6
          have n7 : us 7 = _ := n7
          have n8 : us 8 = _ := n8
          have n9 : us 9 = _ := n9
          have n10 : us 10 = _ := n10
          have n11 : us 11 = _ := n11
          have n12 : us 12 = _ := n12
          have n13 : us 13 = _ := n13
          have n14 : us 14 = _ := n14
          have n15 : us 15 = _ := n15
          have n16 : us 16 = _ := n16
          obtain ⟨r1, r2, r3⟩ := id hR
          simp only [n0, n1, n2, n3, n4, n5, n6, n7, n8, n9, n10, n11, n12, n13, n14, n15, n16]
          clear hl n0 n1 n2 n3 n4 n5 n6 n7 n8 n9 n10 n11 n12 n13 n14 n15 n16
          obtain ⟨g, e13, hg1, hg2⟩ := n18
          simp only [e13]
          have q0 := cell_of_block hg2 0
          have q1 := cell_of_block hg2 1
          have q2 := cell_of_block hg2 2
          have q3 := cell_of_block hg2 3
          have q4 := cell_of_block hg2 4
          simp at q0 q1 q2 q3 q4
          cases hr : (parts s.data.toList).right
          all_goals
            have HRR := Lib.hid hr
            clear hr
            go_wp2_with fail
          · refine (refRight_is ⟨(s[2].toNat : Int), E3, E5, E13, B⟩ false (by rw [HP.out]; exact HRR.out) _).mono ?_
            rintro e v3 ⟨rfl, hb3⟩
            have hX := (hb3.block _ (lt_of_block r2)).trans r2
            have hN := (hb3.block _ (lt_of_block r3)).trans r3
            have x0 := cell_of_block hX 0
            have x1 := cell_of_block hX 1
            have x2 := cell_of_block hX 2
            have x3 := cell_of_block hX 3
            have x4 := cell_of_block hX 4
            simp [zeros] at x0 x1 x2 x3 x4
            have y0 := frozen_of_block hX 0
            have y1 := frozen_of_block hX 1
            have y2 := frozen_of_block hX 2
            have y3 := frozen_of_block hX 3
            have y4 := frozen_of_block hX 4
            have u0 := cell_of_block hN 0
            have u1 := cell_of_block hN 1
            have u2 := cell_of_block hN 2
            have u3 := cell_of_block hN 3
            have u4 := cell_of_block hN 4
            simp [zeros] at u0 u1 u2 u3 u4
            go_wp2_with fail
            refine ref_end _ _ w.heap.size rfl rfl rfl (stored5' hX _ _ _ _ _) (ans_bad (HY6.out HH2.out HGD.out HRR.out) (by decide) rfl ((r1.trans (hb3.mono r1.size)).trans (stored_below' (Nat.le_refl _) _ _ _ _ _)))
          · refine (refRight_is ⟨(s[2].toNat : Int), E3, E5, E13, B⟩ true (by rw [HP.out]; exact HRR.out) _).mono ?_
            rintro e v3 ⟨rfl, hb3⟩
            have hX := (hb3.block _ (lt_of_block r2)).trans r2
            have hN := (hb3.block _ (lt_of_block r3)).trans r3
            have hg3 := (hb3.block _ (lt_of_block hg2)).trans hg2
            clear q0 q1 q2 q3 q4
            have q0 := cell_of_block hg3 0
            have q1 := cell_of_block hg3 1
            have q2 := cell_of_block hg3 2
            have q3 := cell_of_block hg3 3
            have q4 := cell_of_block hg3 4
            simp at q0 q1 q2 q3 q4
            have x0 := cell_of_block hX 0
            have x1 := cell_of_block hX 1
            have x2 := cell_of_block hX 2
            have x3 := cell_of_block hX 3
            have x4 := cell_of_block hX 4
            simp [zeros] at x0 x1 x2 x3 x4
            have y0 := frozen_of_block hX 0
            have y1 := frozen_of_block hX 1
            have y2 := frozen_of_block hX 2
            have y3 := frozen_of_block hX 3
            have y4 := frozen_of_block hX 4
            have u0 := cell_of_block hN 0
            have u1 := cell_of_block hN 1
            have u2 := cell_of_block hN 2
            have u3 := cell_of_block hN 3
            have u4 := cell_of_block hN 4
            simp [zeros] at u0 u1 u2 u3 u4
            go_wp2_with fail
            refine ref_end _ _ w.heap.size rfl rfl rfl (stored5' hX _ _ _ _ _) ⟨?_, (r1.trans (hb3.mono r1.size)).trans (stored_below' (Nat.le_refl _) _ _ _ _ _)⟩
            have hy := HY7.out HH2.out HGD.out HRR.out
            unfold get
            rw [hy, if_pos rfl, ← HP.out]; rfl
  · have d2 : (N != (m : Int)) = true := by rw [hNz]; exact len_ne h2
    have HH2 := Lib.hid h2
    clear h2 hN hz hzs hZ hNz hy4 hy5 hy6 hy7 hX0 hN0 g0 g1 h0 h1 hc hmm hl hbW
    go_enter Tryz.func51, Tryz.ntmps51
    go_wp2_with fail
    with_reducible refine (number_is2 Z N HZS.out HN.out _).mono ?_
    rintro e v ⟨rfl, rfl⟩
    go_wp2_with fail
    exact ref_end _ _ w.heap.size rfl rfl rfl (two_zeros w) (ans_bad (HY4.out HH2.out) (by decide) rfl HBW.out)
end
end Go.Proofs.YtihhflajkohibaaGreatDoor.Frame
