/- Layer 9: what taking a frame of its epoch does to an end in memory. Conditions: the end lies (EndIs), and is one that may be (Ok). -/
import Derived.Test.YtihhflajkohibaaDoorLinkB
namespace Go.Proofs.YtihhflajkohibaaDoor.Link
set_option linter.unusedSimpArgs false
set_option linter.unusedVariables false
set_option maxRecDepth 100000
open Go.RowKit
section
variable {w : World} {p : Nat} {F : List Nat} {x : LE}
theorem taken_cases (f : Fr) (hf : x.fits f = true) :
    (f.kind ≠ 1 → x.taken f = x.acked f ∧ x.told f = ⟨#[]⟩ ∧ x.isNext f = false) ∧ (f.kind = 1 → f.seq ≠ x.want → x.taken f = (x.acked f).owed ∧ x.told f = ⟨#[]⟩ ∧ x.isNext f = false) ∧
      (f.kind = 1 → f.seq = x.want → x.taken f = { (x.acked f).owed with want := u (x.want + 1) } ∧ x.told f = f.body ∧ x.isNext f = true) := by
  refine ⟨fun h => ?_, fun h k => ?_, fun h k => ?_⟩
  · have e : x.isNext f = false := by simp [LE.isNext, h]
    exact ⟨by unfold LE.taken; rw [if_pos hf, if_neg h], by unfold LE.told; rw [e]; rfl, e⟩
  · have e : x.isNext f = false := by simp [LE.isNext, k]
    exact ⟨by unfold LE.taken; rw [if_pos hf, if_pos h, if_neg k], by unfold LE.told; rw [e]; rfl, e⟩
  · have e : x.isNext f = true := by simp [LE.isNext, hf, h, k]
    exact ⟨by unfold LE.taken; rw [if_pos hf, if_pos h, if_pos k], by unfold LE.told; rw [e]; rfl, e⟩
theorem ret_sb {a a' : ByteArray} {b b' : Bool} (h1 : a = a') (h2 : b = b') : Ending.returned (.tuple #[.string a, .bool b]) = .returned (.tuple #[.string a', .bool b']) := by rw [h1, h2]
def box (x : LE) (k sq ak : Int) (b : ByteArray) : Obj := .cells #[.int .i64 k, .int .i64 x.epoch, .int .u64 sq, .int .u64 ak, .string b] 57
set_option maxHeartbeats 2000000 in
theorem take_yes (h : EndIs w p F x) (k sq ak : Int) (b : ByteArray) (hr : Fr.right ⟨k, x.epoch, sq, ak, b⟩ = true) :
    Calls Tryd.prog 35 #[.pointer (some ⟨p, 0, none⟩), .agg #[.int .i64 k, .int .i64 x.epoch, .int .u64 sq, .int .u64 ak, .string b]] w fun e w' => e = .returned (.tuple #[.string (x.told ⟨k, x.epoch, sq, ak, b⟩), .bool (x.isNext ⟨k, x.epoch, sq, ak, b⟩)]) ∧ EndIs w' p F (x.taken ⟨k, x.epoch, sq, ak, b⟩) ∧ Turns F F w w' := by
  have h0 := h
  have hev := h.ok.ew
  have hw8 := h.ok.w8
  have hacked := h.ok.acked ⟨k, x.epoch, sq, ak, b⟩
  have hfits : x.fits ⟨k, x.epoch, sq, ak, b⟩ = true := by simp [LE.fits, hr]
  obtain ⟨A, c, G, rfl, hn, hst, hv⟩ := h.lies
  have hpl := lt_of_block hst
  have hpl1 : p < w.heap.size + 1 := by omega
  have c0 := cell_of_block hst 0
  have c5 := cell_of_block hst 5
  have c7 := cell_of_block hst 7
  simp [ends] at c0 c5 c7
  have HR := Lib.hid hr
  have HF := Lib.hid hfits
  have HAC := Lib.hid hacked
  clear hr hfits hacked
  have hbx : (w.alloc (box x k sq ak b)).heap[w.heap.size]? = some (box x k sq ak b) := heap_alloc_new w _
  have HBX := Lib.hid hbx
  have hE1 : EndIs (w.alloc (box x k sq ak b)) p (p :: G) x := h0.after ((Below.refl w.heap.size w).alloc (Nat.le_refl _) _)
  have HE1 := Lib.hid hE1
  clear hbx hE1
  have hcv := conv_in (x.ever : Int) (by omega) (by omega)
  have hs0 : 0 ≤ IntKind.u64.wrap (ak - x.first) := u_nonneg _
  have hsd : x.step ⟨k, x.epoch, sq, ak, b⟩ = IntKind.u64.wrap (ak - x.first) := rfl
  generalize hs : IntKind.u64.wrap (ak - x.first) = s at *
  have HSD := Lib.hid hsd
  clear hsd
  go_enter Tryd.func35, Tryd.ntmps35
  go_wp2_with fail
  go_region_held3 (fun w' => w'.cell? ⟨p, 0, none⟩ = some (.int .i64 x.epoch) ∧ w'.cell? ⟨w.heap.size, 0, none⟩ = some (.int .i64 k) ∧ w'.cell? ⟨w.heap.size, 1, none⟩ = some (.int .i64 x.epoch) ∧ w'.cell? ⟨w.heap.size, 2, none⟩ = some (.int .u64 sq) ∧ w'.cell? ⟨w.heap.size, 3, none⟩ = some (.int .u64 ak) ∧ w'.cell? ⟨w.heap.size, 4, none⟩ = some (.string b)) (go_keep) ((go_at_call 47; refine (right_is ⟨k, x.epoch, sq, ak, b⟩ true HR.out _).mono ?_; rintro e w1 ⟨rfl, hb⟩; obtain ⟨hcc, _⟩ := bcell hb))
  go_wp2_with fail
  go_quiet (fail)
  have hb2 : Below (w.alloc (box x k sq ak b)).heap.size (w.alloc (box x k sq ak b)) (w1.drewN nq) := below_drewN (of_drew hb) nq
  have hE2 : EndIs (w1.drewN nq) p (p :: G) x := HE1.out.after hb2
  have hT2 : Below w.heap.size w (w1.drewN nq) := ((Below.refl w.heap.size w).alloc (Nat.le_refl _) (box x k sq ak b)).trans (hb2.mono (by simp))
  have hB2 : (w1.drewN nq).heap[w.heap.size]? = some (box x k sq ak b) := (hb2.block w.heap.size (by simp)).trans HBX.out
  have c7' := (bcell hb2).1 p 7 (by simp; omega)
  simp at c7'
  have hex : ∃ d : Bool, decide (0 < s ∧ s ≤ (x.ever : Int)) = d := ⟨_, rfl⟩
  obtain ⟨d, hd⟩ := hex
  have HD := Lib.hid hd
  clear hd
  go_upto_region 4 with fail
  go_cut [36] (fun s36 wx => s36 = .bool d ∧ wx = w1.drewN nq)
  case first =>
    by_cases z0 : 0 < s
    · have d0 : decide (0 < s) = true := by simpa using z0
      by_cases z1 : s ≤ (x.ever : Int)
      · have d1 : decide (s ≤ (x.ever : Int)) = true := by simpa using z1
        go_wp2_with fail
        go_meet
        exact ⟨by rw [← HD.out, decide_eq_true ⟨z0, z1⟩], rfl⟩
      · have d1 : decide (s ≤ (x.ever : Int)) = false := by simpa using z1
        go_wp2_with fail
        go_meet
        exact ⟨by rw [← HD.out, decide_eq_false (by omega)], rfl⟩
    · have d0 : decide (0 < s) = false := by simpa using z0
      go_wp2_with fail
      go_meet
      exact ⟨by rw [← HD.out, decide_eq_false (by omega)], rfl⟩
  case rest =>
    obtain ⟨rfl, rfl⟩ := hcut
    go_upto_if 36 with fail
    go_cut [4, 5] (fun s4 s5 wx => s4 = .string ⟨#[]⟩ ∧ s5 = .bool false ∧ EndIs wx p (p :: G) (x.acked ⟨k, x.epoch, sq, ak, b⟩) ∧ Turns (p :: G) (p :: G) w wx ∧ wx.heap[w.heap.size]? = some (box x k sq ak b))
    case first =>
      cases d
      · have ea : x.acked ⟨k, x.epoch, sq, ak, b⟩ = x := by
          unfold LE.acked; rw [HSD.out]; exact if_neg (of_decide_eq_false HD.out)
        have HEA := Lib.hid ea
        clear ea
        go_wp2_with fail
        go_meet
        exact ⟨rfl, rfl, by rw [HEA.out]; exact hE2, Turns.of_below hT2 _, hB2⟩
      · obtain ⟨z0, z1⟩ := of_decide_eq_true HD.out
        obtain ⟨n, rfl⟩ := Int.eq_ofNat_of_zero_le hs0
        have ea : x.acked ⟨k, x.epoch, sq, ak, b⟩ = x.came n := by
          unfold LE.acked; rw [HSD.out, if_pos ⟨z0, z1⟩]; rfl
        have HEA := Lib.hid ea
        clear ea
        go_wp2_with fail
        refine (came_any hE2 n (by omega)).mono ?_
        rintro e w3 ⟨rfl, hE3, hT3⟩
        go_wp2_with fail
        go_meet
        exact ⟨rfl, rfl, by rw [HEA.out]; exact hE3, (Turns.of_below hT2 _).trans hT3, (hT3.kept.block w.heap.size (by have := hT2.size; have := lt_of_block hB2; omega) (fun hm => by have := h0.lt hm; omega)).trans hB2⟩
    case rest =>
      obtain ⟨rfl, rfl, hE4, hT4, hB4⟩ := hcut
      have hwant : (x.acked ⟨k, x.epoch, sq, ak, b⟩).want = x.want := LE.acked_want _
      have HW := Lib.hid hwant
      have htk := taken_cases (x := x) ⟨k, x.epoch, sq, ak, b⟩ HF.out
      have HTK := Lib.hid htk
      clear hwant htk
      have hok4 := hE4.ok
      generalize x.acked ⟨k, x.epoch, sq, ak, b⟩ = y at *
      obtain ⟨A4, c4, G4, eG, hn4, hst4, hv4⟩ := hE4.lies
      obtain rfl : G4 = G := by simpa using eG.symm
      clear eG hcc hb hb2 hE2 hT2 hB2 c7'
      have k8 := cell_of_block hst4 8
      have k9 := cell_of_block hst4 9
      simp [ends] at k8 k9
      rw [HW.out] at k8
      have f8 := frozen_of_block hst4 8
      have f9 := frozen_of_block hst4 9
      unfold box at hB4
      have b0 := cell_of_block hB4 0
      have b2 := cell_of_block hB4 2
      have b4 := cell_of_block hB4 4
      simp at b0 b2 b4
      have hne : w.heap.size ≠ p := by omega
      by_cases hk : k = 1
      · subst hk
        by_cases hq : sq = x.want
        · subst hq
          obtain ⟨t1, t2, t3⟩ := HTK.out.2.2 rfl rfl
          have T1 := Lib.hid t1
          have T2 := Lib.hid t2
          have T3 := Lib.hid t3
          clear t1 t2 t3
          go_wp2_with fail
          go_quiet (fail)
          go_wp2_with fail
          go_ret2
          have hok5 : ({ y.owed with want := u (x.want + 1) } : LE).Ok := ⟨hok4.w1, hok4.w8, hok4.q64, hok4.t1, hok4.t100, hok4.len, hok4.oe, hok4.ew, hok4.el, hok4.age, hok4.fu, u_idem _⟩
          obtain ⟨r1, r2⟩ := EndIs.turned (A' := A4) (c' := c4) (y := { y.owed with want := u (x.want + 1) }) hn4 (set_block (w := (World.setCell _ ⟨p, 9, none⟩ (.bool true)).drewN nq) (set_block hst4 9 (.bool true)) 8 (.int .u64 (IntKind.u64.wrap (x.want + 1)))) (by simp [ends, LE.owed, u]) (by exact hv4) hok5 ((((Kept.refl [p] _).setCell (.inl (by simp)) _).drewN nq).setCell (.inl (by simp)) _)
          exact ⟨ret_sb T2.out.symm T3.out.symm, by rw [T1.out]; exact r1, hT4.trans r2⟩
        · have hd1 : (sq == x.want) = false := beq_eq_false_iff_ne.2 hq
          have hd2 : (sq != x.want) = true := bne_iff_ne.2 hq
          obtain ⟨t1, t2, t3⟩ := HTK.out.2.1 rfl hq
          have T1 := Lib.hid t1
          have T2 := Lib.hid t2
          have T3 := Lib.hid t3
          clear t1 t2 t3
          go_wp2_with fail
          go_quiet (fail)
          go_wp2_with fail
          go_ret2
          obtain ⟨r1, r2⟩ := EndIs.turned (A' := A4) (c' := c4) (y := y.owed) (w2 := (World.setCell _ ⟨p, 9, none⟩ (.bool true)).drewN nq) hn4 (set_block hst4 9 (.bool true)) (by simp [ends, LE.owed]) (by exact hv4) hok4.owed (((Kept.refl [p] _).setCell (.inl (by simp)) _).drewN nq)
          exact ⟨ret_sb T2.out.symm T3.out.symm, by rw [T1.out]; exact r1, hT4.trans r2⟩
      · have hd1 : (k == 1) = false := beq_eq_false_iff_ne.2 hk
        have hd2 : (k != 1) = true := bne_iff_ne.2 hk
        obtain ⟨t1, t2, t3⟩ := HTK.out.1 hk
        have T1 := Lib.hid t1
        have T2 := Lib.hid t2
        have T3 := Lib.hid t3
        clear t1 t2 t3
        go_wp2_with fail
        go_ret2
        exact ⟨ret_sb T2.out.symm T3.out.symm, by rw [T1.out]; exact hE4, hT4⟩
end
end Go.Proofs.YtihhflajkohibaaDoor.Link
