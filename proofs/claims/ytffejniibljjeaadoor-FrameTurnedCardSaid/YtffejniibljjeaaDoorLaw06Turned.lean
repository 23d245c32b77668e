/- Layer 6: the walk of FrameTurned. Conditions: the table of layer 5 and the variable of package errors are laid; numbers without sign. -/
import Derived.Test.YtffejniibljjeaaDoorBytes
namespace Go.Proofs.YtffejniibljjeaaDoor.Frame
set_option linter.unusedSimpArgs false
set_option linter.unusedVariables false
open Go.RowKit
open Go.Proofs.YtffejniibljjeaaDoor
open Go.Proofs.YtffejniibljjeaaDoor.Link (Fr right_is right_any frBox bcell ret_bool empty_size)

theorem bv_xor8 (a b : UInt8) : bits .xor .u8 (a.toNat : Int) (b.toNat : Int) = ((a ^^^ b).toNat : Int) := by
  rw [u8_xor_nat _ _ a.toNat_lt b.toNat_lt]; simp
theorem xor_ne {x y : UInt8} (h : y ≠ 0) : x ^^^ y ≠ x := fun e => h (by
  have := congrArg (fun z => x ^^^ z) e
  simpa [← UInt8.xor_assoc] using this)
theorem ne_zero {n : Int} (h : n ≠ 0) : (n != 0) = true := bne_iff_ne.2 h
theorem u8_of {a : Int} (h : (Lit.int .u8 a).wf = true) : ∃ y : UInt8, a = (y.toNat : Int) := by
  have h' : 0 ≤ a ∧ a ≤ 255 := by simpa [Lit.wf, IntKind.min, IntKind.max, IntKind.signed, IntKind.bits] using h
  exact ⟨UInt8.ofNat a.toNat, by simp; omega⟩
set_option maxRecDepth 100000 in
set_option maxHeartbeats 4000000 in
theorem turned_walk (k ep sq ak : Int) (b : ByteArray) (at0 by0 : Int) (kf : Fits ⟨k, ep, sq, ak, b⟩) (w1 : (Lit.int .u8 at0).wf = true) (w2 : (Lit.int .u8 by0).wf = true) (w : World) (ht : TabAt w) (hg : ErrAt w) :
    Calls Tryd.prog 6 #[.agg #[.int .i64 k, .int .i64 ep, .int .u64 sq, .int .u64 ak, .string b], .int .u8 at0, .int .u8 by0] w fun e w' => e = .returned (.bool true) ∧ Below w.heap.size w w' := by
  obtain ⟨a, rfl⟩ := u8_of w1
  obtain ⟨y, rfl⟩ := u8_of w2
  clear w1 w2
  have hgp := hg.pos
  have htp := ht.pos
  have hB0 : Below w.heap.size w (w.alloc (.cells #[.int .i64 k, .int .i64 ep, .int .u64 sq, .int .u64 ak, .string b] 25)) := (Below.refl _ _).alloc (Nat.le_refl _) _
  have F0 : (w.alloc (.cells #[.int .i64 k, .int .i64 ep, .int .u64 sq, .int .u64 ak, .string b] 25)).heap[w.heap.size]? = some (.cells #[.int .i64 k, .int .i64 ep, .int .u64 sq, .int .u64 ak, .string b] 25 (0, 0)) := heap_alloc_new w _
  have ht0 := ht.below hB0 htp
  have hg0 := hg.below hB0 hgp
  have f0 := cell_of_block F0 0
  have f1 := cell_of_block F0 1
  have f2 := cell_of_block F0 2
  have f3 := cell_of_block F0 3
  have f4 := cell_of_block F0 4
  simp at f0 f1 f2 f3 f4
  cases hrf : Fr.right ⟨k, ep, sq, ak, b⟩
  · have HRF := Lib.hid hrf
    clear hrf
    go_enter Tryd.func6, Tryd.ntmps6
    go_wp2_with fail
    refine (awake_any _ ht0 hg0).mono ?_
    rintro e w1 ⟨rfl, hb1⟩
    have hB1 : Below w.heap.size w w1 := hB0.trans (hb1.mono hB0.size)
    have ht1 := ht.below hB1 htp
    have hg1 := hg.below hB1 hgp
    have F1 := (hb1.block _ (lt_of_block F0)).trans F0
    clear f0 f1 f2 f3 f4
    have f0 := cell_of_block F1 0
    have f1 := cell_of_block F1 1
    have f2 := cell_of_block F1 2
    have f3 := cell_of_block F1 3
    have f4 := cell_of_block F1 4
    simp at f0 f1 f2 f3 f4
    go_wp2_with fail
    refine (right_is ⟨k, ep, sq, ak, b⟩ false HRF.out _).mono ?_
    rintro e w2 ⟨rfl, hb2⟩
    have hB2 : Below w.heap.size w w2 := hB1.trans (hb2.mono hB1.size)
    have ht2 := ht.below hB2 htp
    have hg2 := hg.below hB2 hgp
    have F2 := (hb2.block _ (lt_of_block F1)).trans F1
    clear f0 f1 f2 f3 f4
    have f0 := cell_of_block F2 0
    have f1 := cell_of_block F2 1
    have f2 := cell_of_block F2 2
    have f3 := cell_of_block F2 3
    have f4 := cell_of_block F2 4
    simp at f0 f1 f2 f3 f4
    go_wp2_with fail
    refine (awake_any _ ht2 hg2).mono ?_
    rintro e w3 ⟨rfl, hb3⟩
    have hB3 : Below w.heap.size w w3 := hB2.trans (hb3.mono hB2.size)
    have ht3 := ht.below hB3 htp
    have hg3 := hg.below hB3 hgp
    go_wp2_with fail
    go_ret
    exact ⟨rfl, hB3⟩
  by_cases hy : y = 0
  · subst hy
    have hy0 : ((UInt8.toNat 0 : Int) == 0) = true := rfl
    have HRF := Lib.hid hrf
    clear hrf
    go_enter Tryd.func6, Tryd.ntmps6
    go_wp2_with fail
    refine (awake_any _ ht0 hg0).mono ?_
    rintro e w1 ⟨rfl, hb1⟩
    have hB1 : Below w.heap.size w w1 := hB0.trans (hb1.mono hB0.size)
    have ht1 := ht.below hB1 htp
    have hg1 := hg.below hB1 hgp
    have F1 := (hb1.block _ (lt_of_block F0)).trans F0
    clear f0 f1 f2 f3 f4
    have f0 := cell_of_block F1 0
    have f1 := cell_of_block F1 1
    have f2 := cell_of_block F1 2
    have f3 := cell_of_block F1 3
    have f4 := cell_of_block F1 4
    simp at f0 f1 f2 f3 f4
    go_wp2_with fail
    refine (right_is ⟨k, ep, sq, ak, b⟩ true HRF.out _).mono ?_
    rintro e w2 ⟨rfl, hb2⟩
    have hB2 : Below w.heap.size w w2 := hB1.trans (hb2.mono hB1.size)
    have ht2 := ht.below hB2 htp
    have hg2 := hg.below hB2 hgp
    have F2 := (hb2.block _ (lt_of_block F1)).trans F1
    clear f0 f1 f2 f3 f4
    have f0 := cell_of_block F2 0
    have f1 := cell_of_block F2 1
    have f2 := cell_of_block F2 2
    have f3 := cell_of_block F2 3
    have f4 := cell_of_block F2 4
    simp at f0 f1 f2 f3 f4
    go_wp2_with fail
    refine (awake_any _ ht2 hg2).mono ?_
    rintro e w3 ⟨rfl, hb3⟩
    have hB3 : Below w.heap.size w w3 := hB2.trans (hb3.mono hB2.size)
    have ht3 := ht.below hB3 htp
    have hg3 := hg.below hB3 hgp
    go_wp2_with fail
    go_ret
    exact ⟨rfl, hB3⟩
  have hy0 : ((y.toNat : Int) == 0) = false := by
    rw [beq_eq_false_iff_ne]; intro e; apply hy; apply UInt8.toNat_inj.1; simp; omega
  obtain ⟨S, hS⟩ : ∃ S : ByteArray, S = ⟨(put ⟨k, ep, sq, ak, b⟩).toArray⟩ := ⟨_, rfl⟩
  have hSl : S.data.toList = put ⟨k, ep, sq, ak, b⟩ := by rw [hS]
  have hSz : (put ⟨k, ep, sq, ak, b⟩).length = S.size := by rw [hS, ba_size]
  have hSs : 27 ≤ S.size ∧ S.size ≤ 91 := by
    have h := (right_iff.1 hrf).2.2.1
    rw [← hSz, put_length]
    simp only at h ⊢
    omega
  have hlt : a.toNat % S.size < S.size := Nat.mod_lt _ (by omega)
  obtain ⟨j, hj⟩ : ∃ j, a.toNat % S.size = j := ⟨_, rfl⟩
  rw [hj] at hlt
  have hjl : j < (put ⟨k, ep, sq, ak, b⟩).length := by omega
  obtain ⟨X, hX⟩ : ∃ X, (put ⟨k, ep, sq, ak, b⟩)[j] = X := ⟨_, rfl⟩
  obtain ⟨Z, hZ⟩ : ∃ Z, Z = X ^^^ y := ⟨_, rfl⟩
  have hzx : X.toNat ^^^ y.toNat = Z.toNat := by rw [hZ]; simp
  have hne : (why ((put ⟨k, ep, sq, ak, b⟩).set j Z)).2 ≠ 0 := why_turned _ _ _ hjl (by rw [hX, hZ]; exact xor_ne hy)
  have hcut : (why ((put ⟨k, ep, sq, ak, b⟩).take j)).2 ≠ 0 := why_cut _ hrf _ hjl
  have hlong : (why (put ⟨k, ep, sq, ak, b⟩ ++ [y])).2 ≠ 0 := why_long _ hrf _
  obtain ⟨M, hM⟩ : ∃ M, M = (put ⟨k, ep, sq, ak, b⟩).set j Z := ⟨_, rfl⟩
  obtain ⟨C, hC⟩ : ∃ C : ByteArray, C = S.extract 0 j := ⟨_, rfl⟩
  obtain ⟨D, hD⟩ : ∃ D : ByteArray, D = S ++ ⟨#[y]⟩ := ⟨_, rfl⟩
  have hMl : M.length = S.size := by rw [hM, List.length_set, hSz]
  have hCl : C.data.toList = (put ⟨k, ep, sq, ak, b⟩).take j := by rw [hC, ← hSl]; simp
  have hDl : D.data.toList = put ⟨k, ep, sq, ak, b⟩ ++ [y] := by rw [hD, ← hSl]; simp
  have hCs : C.size ≤ maxLen := by rw [← length_size, hCl, List.length_take]; unfold maxLen; omega
  have hDs : D.size ≤ maxLen := by rw [← length_size, hDl]; simp [hSz]; unfold maxLen; omega
  rw [← hM] at hne
  rw [← hCl] at hcut
  rw [← hDl] at hlong
  obtain ⟨n1, h1⟩ : ∃ n, n = (why M).2 := ⟨_, rfl⟩
  obtain ⟨n2, h2⟩ : ∃ n, n = (why C.data.toList).2 := ⟨_, rfl⟩
  obtain ⟨n3, h3⟩ : ∃ n, n = (why D.data.toList).2 := ⟨_, rfl⟩
  have z1 : (n1 != 0) = true := ne_zero (by rw [h1]; exact hne)
  have z2 : (n2 != 0) = true := ne_zero (by rw [h2]; exact hcut)
  have z3 : (n3 != 0) = true := ne_zero (by rw [h3]; exact hlong)
  have g1 : noFr = get M := (get_none hne).symm
  have g2 : noFr = get C.data.toList := (get_none hcut).symm
  have g3 : noFr = get D.data.toList := (get_none hlong).symm
  have hMs : (⟨M.toArray⟩ : ByteArray).size ≤ maxLen := by rw [ba_size, hMl]; unfold maxLen; omega
  have hsl : ∀ w, (Instr.slice 9 (.string S) Option.none (some (.int .i64 (j : Int))) Option.none).run Tryd.prog w = .ok (.string C) w := fun w => by
    rw [hC]; exact slice_to Tryd.underlying9 S j (by omega) w
  have hwa : IntKind.i64.wrap (a.toNat : Int) = (a.toNat : Int) := IntWalk.i64_in _ (by have := a.toNat_lt; omega)
  have hrem : (a.toNat : Int).tmod (S.size : Int) = (j : Int) := by rw [← hj]; rfl
  have hnz : ¬ (S.size : Int) = 0 := by omega
  have hgt : ¬ (9223372036854775807 < S.size + 1) := by omega
  have hxor := bv_xor8 X y
  rw [← hZ] at hxor
  clear hZ
  have HRF := Lib.hid hrf
  have HS := Lib.hid hS
  have HSL := Lib.hid hSl
  have HSS := Lib.hid hSs
  have HLT := Lib.hid hlt
  have HX := Lib.hid hX
  have HM := Lib.hid hM
  have HD := Lib.hid hD
  have HML := Lib.hid hMl
  have HMS := Lib.hid hMs
  have HCS := Lib.hid hCs
  have HDS := Lib.hid hDs
  have H1 := Lib.hid h1
  have H2 := Lib.hid h2
  have H3 := Lib.hid h3
  have G1 := Lib.hid g1
  have G2 := Lib.hid g2
  have G3 := Lib.hid g3
  clear hrf hS hSl hSz hSs hlt hX hne hcut hlong hM hC hD hMl hMs hCl hDl hCs hDs h1 h2 h3 g1 g2 g3 hj hy
  go_enter Tryd.func6, Tryd.ntmps6
  go_wp2_with fail
  refine (awake_any _ ht0 hg0).mono ?_
  rintro e w1 ⟨rfl, hb1⟩
  have hB1 : Below w.heap.size w w1 := hB0.trans (hb1.mono hB0.size)
  have ht1 := ht.below hB1 htp
  have hg1 := hg.below hB1 hgp
  have F1 := (hb1.block _ (lt_of_block F0)).trans F0
  clear f0 f1 f2 f3 f4
  have f0 := cell_of_block F1 0
  have f1 := cell_of_block F1 1
  have f2 := cell_of_block F1 2
  have f3 := cell_of_block F1 3
  have f4 := cell_of_block F1 4
  simp at f0 f1 f2 f3 f4
  go_wp2_with fail
  refine (right_is ⟨k, ep, sq, ak, b⟩ true HRF.out _).mono ?_
  rintro e w2 ⟨rfl, hb2⟩
  have hB2 : Below w.heap.size w w2 := hB1.trans (hb2.mono hB1.size)
  have ht2 := ht.below hB2 htp
  have hg2 := hg.below hB2 hgp
  have F2 := (hb2.block _ (lt_of_block F1)).trans F1
  clear f0 f1 f2 f3 f4
  have f0 := cell_of_block F2 0
  have f1 := cell_of_block F2 1
  have f2 := cell_of_block F2 2
  have f3 := cell_of_block F2 3
  have f4 := cell_of_block F2 4
  simp at f0 f1 f2 f3 f4
  go_wp2_with fail
  refine (Put_is ⟨k, ep, sq, ak, b⟩ S HRF.out kf HS.out _ ht2).mono ?_
  rintro e w3 ⟨rfl, hb3⟩
  have hB3 : Below w.heap.size w w3 := hB2.trans (hb3.mono hB2.size)
  have ht3 := ht.below hB3 htp
  have hg3 := hg.below hB3 hgp
  have F3 := (hb3.block _ (lt_of_block F2)).trans F2
  clear f0 f1 f2 f3 f4
  have f0 := cell_of_block F3 0
  have f1 := cell_of_block F3 1
  have f2 := cell_of_block F3 2
  have f3 := cell_of_block F3 3
  have f4 := cell_of_block F3 4
  simp at f0 f1 f2 f3 f4
  obtain ⟨cap, w4, hconv, hb4, hby, hsz⟩ := to_bytes S w3
  have hB4 := hB3.trans (hb4.mono hB3.size)
  have hjs : j < S.data.toList.length := by rw [length_size]; exact HLT.out
  have hX' : S.data.toList.getD j 0 = X := by
    rw [List.getD_eq_getElem?_getD, List.getElem?_eq_getElem hjs]
    have h := HX.out
    simp only [HSL.out] at h ⊢
    exact h
  have hc := (hby j hjs).1
  rw [hX'] at hc
  have hfz := (hby j hjs).2
  have hset := hby.set hjs Z
  rw [HSL.out, ← HM.out] at hset
  have hbk := of_bytes hset S.size cap (HML.out.symm)
  have hB5 := hB4.setCell (p := ⟨w3.heap.size, j, none⟩) hB3.size (.int .u8 (Z.toNat : Int))
  have HC := Lib.hid hset
  clear hby hset hX' hjs
  go_wp2_with fail
  refine (Get_is ⟨M.toArray⟩ noFr n1 _ HMS.out G1.out H1.out (ht.below hB5 htp) (hg.below hB5 hgp)).mono ?_
  rintro e w6 ⟨rfl, hb6⟩
  have hB6 : Below w.heap.size w w6 := hB5.trans (hb6.mono hB5.size)
  clear hconv hc hfz hbk
  unfold Link.Fr.val noFr
  have hal6 : Below w6.heap.size w6 (w6.alloc (.cells #[.int .i64 0, .int .i64 0, .int .u64 0, .int .u64 0, .string ⟨#[]⟩] 25)) := (Below.refl _ _).alloc (Nat.le_refl _) _
  have hB6p : Below w.heap.size w (w6.alloc (.cells #[.int .i64 0, .int .i64 0, .int .u64 0, .int .u64 0, .string ⟨#[]⟩] 25)) := hB6.trans (hal6.mono hB6.size)
  have ht6p := ht.below hB6p htp
  have hg6p := hg.below hB6p hgp
  have P6p : (w6.alloc (.cells #[.int .i64 0, .int .i64 0, .int .u64 0, .int .u64 0, .string ⟨#[]⟩] 25)).heap[w6.heap.size]? = some (.cells #[.int .i64 0, .int .i64 0, .int .u64 0, .int .u64 0, .string ⟨#[]⟩] 25 (0, 0)) := heap_alloc_new w6 _
  have p0 := cell_of_block P6p 0
  have p1 := cell_of_block P6p 1
  have p2 := cell_of_block P6p 2
  have p3 := cell_of_block P6p 3
  have p4 := cell_of_block P6p 4
  simp at p0 p1 p2 p3 p4
  go_wp2_with fail
  refine (Get_is C noFr n2 _ HCS.out G2.out H2.out ht6p hg6p).mono ?_
  rintro e w7 ⟨rfl, hb7⟩
  have hB7 : Below w.heap.size w w7 := hB6p.trans (hb7.mono hB6p.size)
  have ht7 := ht.below hB7 htp
  have hg7 := hg.below hB7 hgp
  have P7 := (hb7.block _ (lt_of_block P6p)).trans P6p
  clear p0 p1 p2 p3 p4
  have p0 := cell_of_block P7 0
  have p1 := cell_of_block P7 1
  have p2 := cell_of_block P7 2
  have p3 := cell_of_block P7 3
  have p4 := cell_of_block P7 4
  simp at p0 p1 p2 p3 p4
  unfold Link.Fr.val noFr
  have hal7 : Below w7.heap.size w7 (w7.alloc (.cells #[.int .i64 0, .int .i64 0, .int .u64 0, .int .u64 0, .string ⟨#[]⟩] 25)) := (Below.refl _ _).alloc (Nat.le_refl _) _
  have hB7p : Below w.heap.size w (w7.alloc (.cells #[.int .i64 0, .int .i64 0, .int .u64 0, .int .u64 0, .string ⟨#[]⟩] 25)) := hB7.trans (hal7.mono hB7.size)
  have ht7p := ht.below hB7p htp
  have hg7p := hg.below hB7p hgp
  have P7p := (Below.heap_alloc _ (.cells #[.int .i64 0, .int .i64 0, .int .u64 0, .int .u64 0, .string ⟨#[]⟩] 25) _ (lt_of_block P7)).trans P7
  have Q7p : (w7.alloc (.cells #[.int .i64 0, .int .i64 0, .int .u64 0, .int .u64 0, .string ⟨#[]⟩] 25)).heap[w7.heap.size]? = some (.cells #[.int .i64 0, .int .i64 0, .int .u64 0, .int .u64 0, .string ⟨#[]⟩] 25 (0, 0)) := heap_alloc_new w7 _
  clear p0 p1 p2 p3 p4
  have p0 := cell_of_block P7p 0
  have p1 := cell_of_block P7p 1
  have p2 := cell_of_block P7p 2
  have p3 := cell_of_block P7p 3
  have p4 := cell_of_block P7p 4
  simp at p0 p1 p2 p3 p4
  have q0 := cell_of_block Q7p 0
  have q1 := cell_of_block Q7p 1
  have q2 := cell_of_block Q7p 2
  have q3 := cell_of_block Q7p 3
  have q4 := cell_of_block Q7p 4
  simp at q0 q1 q2 q3 q4
  have hcat : S ++ ⟨#[y]⟩ = D := HD.out.symm
  have hvv : ∀ v : World, (convert 41 9 (.slice (some ⟨v.heap.size, 0, none⟩) 1 1)).run Tryd.prog (v.alloc (.cells #[.int .u8 (y.toNat : Int)] 5)) = .ok (.string ⟨#[y]⟩) (v.alloc (.cells #[.int .u8 (y.toNat : Int)] 5)) := fun v =>
    conv_vec (l := [y]) (F := [v.heap.size]) (Vec.of_new (w := v.alloc (.cells #[.int .u8 (y.toNat : Int)] 5)) (e := 5) (g := v.heap.size) #[.int .u8 (y.toNat : Int)] 1 1 1 (Nat.le_refl _) (by decide) rfl (heap_alloc_new v _)) (by omega)
  have hcv := hvv (w7.alloc (.cells #[.int .i64 0, .int .i64 0, .int .u64 0, .int .u64 0, .string ⟨#[]⟩] 25))
  rw [show (w7.alloc (.cells #[.int .i64 0, .int .i64 0, .int .u64 0, .int .u64 0, .string ⟨#[]⟩] 25)).heap.size = w7.heap.size + 1 by simp] at hcv
  have hB8 : Below w.heap.size w ((w7.alloc (.cells #[.int .i64 0, .int .i64 0, .int .u64 0, .int .u64 0, .string ⟨#[]⟩] 25)).alloc (.cells #[.int .u8 (y.toNat : Int)] 5)) := hB7p.alloc hB7p.size _
  have P8 := (Below.heap_alloc _ (.cells #[.int .u8 (y.toNat : Int)] 5) _ (lt_of_block P7p)).trans P7p
  have Q8 := (Below.heap_alloc _ (.cells #[.int .u8 (y.toNat : Int)] 5) _ (lt_of_block Q7p)).trans Q7p
  clear hvv
  go_wp2_with fail
  refine (Get_is D noFr n3 _ HDS.out G3.out H3.out (ht.below hB8 htp) (hg.below hB8 hgp)).mono ?_
  rintro e w9 ⟨rfl, hb9⟩
  have hB9 : Below w.heap.size w w9 := hB8.trans (hb9.mono hB8.size)
  have P9 := (hb9.block _ (lt_of_block P8)).trans P8
  have Q9 := (hb9.block _ (lt_of_block Q8)).trans Q8
  clear p0 p1 p2 p3 p4 q0 q1 q2 q3 q4
  have p0 := cell_of_block P9 0
  have p1 := cell_of_block P9 1
  have p2 := cell_of_block P9 2
  have p3 := cell_of_block P9 3
  have p4 := cell_of_block P9 4
  simp at p0 p1 p2 p3 p4
  have q0 := cell_of_block Q9 0
  have q1 := cell_of_block Q9 1
  have q2 := cell_of_block Q9 2
  have q3 := cell_of_block Q9 3
  have q4 := cell_of_block Q9 4
  simp at q0 q1 q2 q3 q4
  have hlp := lt_of_block P9
  have hlq := lt_of_block Q9
  unfold Link.Fr.val noFr
  go_wp2_with fail
  go_ret
  exact ⟨ret_bool (by simp), hB9.alloc hB9.size _⟩
end Go.Proofs.YtffejniibljjeaaDoor.Frame
