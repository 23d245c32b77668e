/- Layer 9: what a frame that came does to an end in memory. Conditions: the end lies (EndIs), and is one that may be (Ok). -/
import Derived.Test.YtihhflajkohibaaGreatDoorLink
import Derived.Test.YtihhflajkohibaaGreatDoorFrRight
import Derived.Deep.RegionWith
import Derived.Deep.RegionHeld3
import Derived.Deep.QuietTactic
import Derived.Outline
import Derived.Deep.DeepCutAuto
import Derived.Deep.CutBlock
import Derived.BigQuiet
import Derived.Lib.Strings
import Derived.Test.YtihhflajkohibaaGreatDoorHeld
import Derived.Deep.RegionLaw
namespace Go.Proofs.YtihhflajkohibaaGreatDoor.Link
set_option linter.unusedSimpArgs false
set_option linter.unusedVariables false
set_option maxRecDepth 100000
open Go.RowKit
section
variable {w : World} {p : Nat} {F : List Nat} {x : LE}
theorem conv_in (n : Int) (h0 : 0 ≤ n) (h1 : n ≤ 1000) : IntKind.u64.wrap n = n := IntWalk.u64_in _ (by omega)
set_option maxHeartbeats 400000 in
theorem came_any (h : EndIs w p F x) (k : Nat) (hk : k ≤ x.ever) :
    Calls Tryz.prog 76 #[.pointer (some ⟨p, 0, none⟩), .int .i64 (k : Int)] w fun e w' => e = .returned (.tuple #[]) ∧ EndIs w' p F (x.came k) ∧ Turns F F w w' := by
  have hok := h.ok.came hk
  have HOK := Lib.hid hok
  have h1 := h.ok.oe
  have h2 := h.ok.ew
  have h3 := h.ok.el
  have h4 := h.ok.w8
  obtain ⟨A, c, G, rfl, hn, hst, hv⟩ := h.lies
  have hcl := hv.le
  have hcm := hv.max
  unfold maxLen at hcm
  have c4 := cell_of_block hst 4
  have c5 := cell_of_block hst 5
  have c6 := cell_of_block hst 6
  have c7 := cell_of_block hst 7
  have c10 := cell_of_block hst 10
  simp [ends] at c4 c5 c6 c7 c10
  have f4 := frozen_of_block hst 4
  have f5 := frozen_of_block hst 5
  have f6 := frozen_of_block hst 6
  have f7 := frozen_of_block hst 7
  have f10 := frozen_of_block hst 10
  have hcv := conv_in (k : Int) (by omega) (by omega)
  have g0 : (0 : Int) ≤ (k : Int) := by omega
  have g1 : (k : Int) ≤ (c : Int) := by omega
  clear hok
  have hom : (((x.out - k : Nat) : Int)) = max ((x.out : Int) - (k : Int)) 0 := by omega
  have HOM := Lib.hid hom
  have hev : (((x.ever - k : Nat) : Int)) = (x.ever : Int) - (k : Int) := by omega
  have HEV := Lib.hid hev
  have hdl : (x.came k).bodies.length = x.bodies.length - k := by simp [LE.came]
  have HDL := Lib.hid hdl
  have hdm : (x.came k).bodies.map Value.string = (x.bodies.map Value.string).drop k := by simp [LE.came, List.map_drop]
  have HDM := Lib.hid hdm
  clear hom hev hdl hdm
  have fin : ∀ (A' : Option Addr) (n' c' : Nat) (o : Int) (w2 : World), n' = x.bodies.length - k → o = max ((x.out : Int) - (k : Int)) 0 → Vec w G 1 A' (x.bodies.length - k) c' ((x.bodies.map Value.string).drop k) →
      w2 = (((((w.setCell ⟨p, 4, none⟩ (.slice A' n' c')).setCell ⟨p, 5, none⟩ (.int .u64 (IntKind.u64.wrap (x.first + (k : Int))))).setCell ⟨p, 6, none⟩ (.int .i64 o)).setCell ⟨p, 7, none⟩ (.int .i64 ((x.ever : Int) - (k : Int)))).setCell ⟨p, 10, none⟩ (.int .i64 0)) →
      EndIs w2 p (p :: G) (x.came k) ∧ Turns (p :: G) (p :: G) w w2 := by
    intro A' n' c' o w2 hn' ho hv2 e
    subst e
    subst hn'
    refine EndIs.turned (A' := A') (c' := c') hn (set_block (set_block (set_block (set_block (set_block hst 4 _) 5 _) 6 _) 7 _) 10 _) ?_ ?_ HOK.out ?_
    · rw [ho, ← HOM.out, ← HEV.out]
      simp [ends, LE.came, u]
    · rw [HDL.out, HDM.out]; exact hv2
    · exact (((((Kept.refl [p] w).setCell (.inl (by simp)) _).setCell (.inl (by simp)) _).setCell (.inl (by simp)) _).setCell (.inl (by simp)) _).setCell (.inl (by simp)) _
  have FIN := Lib.hid fin
  clear fin
  by_cases hck : k = c
  · have hem := hv.emptied k (by omega) hck
    rw [Nat.mul_one, show c - k = 0 from by omega] at hem
    have HEM := Lib.hid hem
    clear hem
    subst hck
    go_enter Tryz.func76, Tryz.ntmps76
    go_wp2
    all_goals
      go_end0
      exact ⟨rfl, FIN.out A 0 0 _ _ (by omega) (by omega) HEM.out rfl⟩
  · have hlt : (k : Int) < (c : Int) := by omega
    rcases hv.place with ⟨rfl, rfl, rfl⟩ | ⟨g, off, rfl, rfl, _⟩
    · omega
    · have hdr := hv.dropped k (by omega) (by omega) g off rfl
      rw [Nat.mul_one] at hdr
      have HDR := Lib.hid hdr
      clear hdr
      go_enter Tryz.func76, Tryz.ntmps76
      go_wp2
      all_goals
        go_end0
        exact ⟨rfl, FIN.out _ (x.bodies.length - k) _ _ _ rfl (by omega) HDR.out rfl⟩
end
end Go.Proofs.YtihhflajkohibaaGreatDoor.Link
/- Layer 9: what taking a frame does to an end in memory. Conditions: the end lies (EndIs), and is one that may be (Ok). -/
namespace Go.Proofs.YtihhflajkohibaaGreatDoor.Link
set_option linter.unusedSimpArgs false
set_option linter.unusedVariables false
set_option maxRecDepth 100000
open Go.RowKit
section
variable {w : World} {p : Nat} {F : List Nat} {x : LE}
set_option maxHeartbeats 2000000 in
theorem take_no (h : EndIs w p F x) (f : Fr) (hf : x.fits f = false) :
    Calls Tryz.prog 49 #[.pointer (some ⟨p, 0, none⟩), f.val] w fun e w' => e = .returned (.tuple #[.string ⟨#[]⟩, .bool false]) ∧ Below w.heap.size w w' := by
  obtain ⟨A, c, G, rfl, hn, hst, hv⟩ := h.lies
  have hpl := lt_of_block hst
  have hpl1 : p < w.heap.size + 1 := by omega
  have c0 := cell_of_block hst 0
  simp [ends] at c0
  have hfv : ∀ v, f.right = v → Fr.right ⟨f.kind, f.epoch, f.seq, f.ack, f.body⟩ = v := fun v h => h
  unfold LE.fits at hf
  cases hr : f.right
  · have HR := Lib.hid hr
    clear hr hf hfv
    obtain ⟨k, ep, sq, ak, b⟩ := f
    unfold Fr.val
    go_enter Tryz.func49, Tryz.ntmps49
    go_wp2_with fail
    first | (go_region_with ((go_at_call 62; refine (right_is ⟨k, ep, sq, ak, b⟩ false HR.out _).mono ?_; rintro e w1 ⟨rfl, hb⟩))) | (trace "no")
    all_goals
      go_wp2
      go_ret2
      exact ⟨rfl, ((below_drewN (Below.refl w.heap.size w) 1).alloc (Nat.le_refl _) _).trans (hb.mono (by simp))⟩
  · rw [hr] at hf
    have hne : f.epoch ≠ x.epoch := by simpa using hf
    have HR := Lib.hid hr
    clear hr hf hfv
    obtain ⟨k, ep, sq, ak, b⟩ := f
    unfold Fr.val
    have hd : (ep == x.epoch) = false := beq_eq_false_iff_ne.2 hne
    have hd2 : (ep != x.epoch) = true := bne_iff_ne.2 hne
    go_enter Tryz.func49, Tryz.ntmps49
    go_wp2_with fail
    go_region_held3 (fun w' => w'.cell? ⟨p, 0, none⟩ = some (.int .i64 x.epoch) ∧ w'.cell? ⟨w.heap.size, 0, none⟩ = some (.int .i64 k) ∧ w'.cell? ⟨w.heap.size, 1, none⟩ = some (.int .i64 ep) ∧ w'.cell? ⟨w.heap.size, 2, none⟩ = some (.int .u64 sq) ∧ w'.cell? ⟨w.heap.size, 3, none⟩ = some (.int .u64 ak) ∧ w'.cell? ⟨w.heap.size, 4, none⟩ = some (.string b)) (go_keep) ((go_at_call 62; refine (right_is ⟨k, ep, sq, ak, b⟩ true HR.out _).mono ?_; rintro e w1 ⟨rfl, hb⟩; obtain ⟨hcc, _⟩ := bcell hb))
    all_goals
      go_wp2
      go_ret2
      exact ⟨rfl, ((below_drewN (Below.refl w.heap.size w) 1).alloc (Nat.le_refl _) _).trans (hb.mono (by simp))⟩
end
end Go.Proofs.YtihhflajkohibaaGreatDoor.Link
/- Layer 9: what taking a frame of its epoch does to an end in memory. Conditions: the end lies (EndIs), and is one that may be (Ok). -/
namespace Go.Proofs.YtihhflajkohibaaGreatDoor.Link
set_option linter.unusedSimpArgs false
set_option linter.unusedVariables false
set_option maxRecDepth 100000
open Go.RowKit
section
variable {w : World} {p : Nat} {F : List Nat} {x : LE}
theorem taken_cases (f : Fr) (hf : x.fits f = true) :
    (f.kind ≠ 1 → x.taken f = x.acked f ∧ x.told f = ⟨#[]⟩ ∧ x.isNext f = false) ∧ (f.kind = 1 → f.seq ≠ x.want → x.taken f = (x.acked f).owed ∧ x.told f = ⟨#[]⟩ ∧ x.isNext f = false) ∧
      (f.kind = 1 → f.seq = x.want → x.taken f = { (x.acked f).owed with want := u (x.want + 1) } ∧ x.told f = f.body ∧ x.isNext f = true) := by
  refine ⟨fun h => ?_, fun h k => ?_, fun h k => ?_⟩
  · have e : x.isNext f = false := by simp [LE.isNext, h]
    exact ⟨by unfold LE.taken; rw [if_pos hf, if_neg h], by unfold LE.told; rw [e]; rfl, e⟩
  · have e : x.isNext f = false := by simp [LE.isNext, k]
    exact ⟨by unfold LE.taken; rw [if_pos hf, if_pos h, if_neg k], by unfold LE.told; rw [e]; rfl, e⟩
  · have e : x.isNext f = true := by simp [LE.isNext, hf, h, k]
    exact ⟨by unfold LE.taken; rw [if_pos hf, if_pos h, if_pos k], by unfold LE.told; rw [e]; rfl, e⟩
theorem ret_sb {a a' : ByteArray} {b b' : Bool} (h1 : a = a') (h2 : b = b') : Ending.returned (.tuple #[.string a, .bool b]) = .returned (.tuple #[.string a', .bool b']) := by rw [h1, h2]
def box (x : LE) (k sq ak : Int) (b : ByteArray) : Obj := .cells #[.int .i64 k, .int .i64 x.epoch, .int .u64 sq, .int .u64 ak, .string b] 83
set_option maxHeartbeats 2000000 in
theorem take_yes (h : EndIs w p F x) (k sq ak : Int) (b : ByteArray) (hr : Fr.right ⟨k, x.epoch, sq, ak, b⟩ = true) :
    Calls Tryz.prog 49 #[.pointer (some ⟨p, 0, none⟩), .agg #[.int .i64 k, .int .i64 x.epoch, .int .u64 sq, .int .u64 ak, .string b]] w fun e w' => e = .returned (.tuple #[.string (x.told ⟨k, x.epoch, sq, ak, b⟩), .bool (x.isNext ⟨k, x.epoch, sq, ak, b⟩)]) ∧ EndIs w' p F (x.taken ⟨k, x.epoch, sq, ak, b⟩) ∧ Turns F F w w' := by
  have h0 := h
  have hev := h.ok.ew
  have hw8 := h.ok.w8
  have hacked := h.ok.acked ⟨k, x.epoch, sq, ak, b⟩
  have hfits : x.fits ⟨k, x.epoch, sq, ak, b⟩ = true := by simp [LE.fits, hr]
  obtain ⟨A, c, G, rfl, hn, hst, hv⟩ := h.lies
  have hpl := lt_of_block hst
  have hpl1 : p < w.heap.size + 1 := by omega
  have c0 := cell_of_block hst 0
  have c5 := cell_of_block hst 5
  have c7 := cell_of_block hst 7
  simp [ends] at c0 c5 c7
  have HR := Lib.hid hr
  have HF := Lib.hid hfits
  have HAC := Lib.hid hacked
  clear hr hfits hacked
  have hbx : (w.alloc (box x k sq ak b)).heap[w.heap.size]? = some (box x k sq ak b) := heap_alloc_new w _
  have HBX := Lib.hid hbx
  have hE1 : EndIs (w.alloc (box x k sq ak b)) p (p :: G) x := h0.after ((Below.refl w.heap.size w).alloc (Nat.le_refl _) _)
  have HE1 := Lib.hid hE1
  clear hbx hE1
  have hcv := conv_in (x.ever : Int) (by omega) (by omega)
  have hs0 : 0 ≤ IntKind.u64.wrap (ak - x.first) := u_nonneg _
  have hsd : x.step ⟨k, x.epoch, sq, ak, b⟩ = IntKind.u64.wrap (ak - x.first) := rfl
  generalize hs : IntKind.u64.wrap (ak - x.first) = s at *
  have HSD := Lib.hid hsd
  clear hsd
  go_enter Tryz.func49, Tryz.ntmps49
  go_wp2_with fail
  go_region_held3 (fun w' => w'.cell? ⟨p, 0, none⟩ = some (.int .i64 x.epoch) ∧ w'.cell? ⟨w.heap.size, 0, none⟩ = some (.int .i64 k) ∧ w'.cell? ⟨w.heap.size, 1, none⟩ = some (.int .i64 x.epoch) ∧ w'.cell? ⟨w.heap.size, 2, none⟩ = some (.int .u64 sq) ∧ w'.cell? ⟨w.heap.size, 3, none⟩ = some (.int .u64 ak) ∧ w'.cell? ⟨w.heap.size, 4, none⟩ = some (.string b)) (go_keep) ((go_at_call 62; refine (right_is ⟨k, x.epoch, sq, ak, b⟩ true HR.out _).mono ?_; rintro e w1 ⟨rfl, hb⟩; obtain ⟨hcc, _⟩ := bcell hb))
  go_wp2_with fail
  go_quiet (fail)
  have hb2 : Below (w.alloc (box x k sq ak b)).heap.size (w.alloc (box x k sq ak b)) (w1.drewN nq) := below_drewN (of_drew hb) nq
  have hE2 : EndIs (w1.drewN nq) p (p :: G) x := HE1.out.after hb2
  have hT2 : Below w.heap.size w (w1.drewN nq) := ((Below.refl w.heap.size w).alloc (Nat.le_refl _) (box x k sq ak b)).trans (hb2.mono (by simp))
  have hB2 : (w1.drewN nq).heap[w.heap.size]? = some (box x k sq ak b) := (hb2.block w.heap.size (by simp)).trans HBX.out
  have c7' := (bcell hb2).1 p 7 (by simp; omega)
  simp at c7'
  have hex : ∃ d : Bool, decide (0 < s ∧ s ≤ (x.ever : Int)) = d := ⟨_, rfl⟩
  obtain ⟨d, hd⟩ := hex
  have HD := Lib.hid hd
  clear hd
  go_upto_region 4 with fail
  go_cut [36] (fun s36 wx => s36 = .bool d ∧ wx = w1.drewN nq)
  case first =>
    by_cases z0 : 0 < s
    · have d0 : decide (0 < s) = true := by simpa using z0
      by_cases z1 : s ≤ (x.ever : Int)
      · have d1 : decide (s ≤ (x.ever : Int)) = true := by simpa using z1
        go_wp2_with fail
        go_meet
        exact ⟨by rw [← HD.out, decide_eq_true ⟨z0, z1⟩], rfl⟩
      · have d1 : decide (s ≤ (x.ever : Int)) = false := by simpa using z1
        go_wp2_with fail
        go_meet
        exact ⟨by rw [← HD.out, decide_eq_false (by omega)], rfl⟩
    · have d0 : decide (0 < s) = false := by simpa using z0
      go_wp2_with fail
      go_meet
      exact ⟨by rw [← HD.out, decide_eq_false (by omega)], rfl⟩
  case rest =>
    obtain ⟨rfl, rfl⟩ := hcut
    go_upto_if 36 with fail
    go_cut [4, 5] (fun s4 s5 wx => s4 = .string ⟨#[]⟩ ∧ s5 = .bool false ∧ EndIs wx p (p :: G) (x.acked ⟨k, x.epoch, sq, ak, b⟩) ∧ Turns (p :: G) (p :: G) w wx ∧ wx.heap[w.heap.size]? = some (box x k sq ak b))
    case first =>
      cases d
      · have ea : x.acked ⟨k, x.epoch, sq, ak, b⟩ = x := by
          unfold LE.acked; rw [HSD.out]; exact if_neg (of_decide_eq_false HD.out)
        have HEA := Lib.hid ea
        clear ea
        go_wp2_with fail
        go_meet
        exact ⟨rfl, rfl, by rw [HEA.out]; exact hE2, Turns.of_below hT2 _, hB2⟩
      · obtain ⟨z0, z1⟩ := of_decide_eq_true HD.out
        obtain ⟨n, rfl⟩ := Int.eq_ofNat_of_zero_le hs0
        have ea : x.acked ⟨k, x.epoch, sq, ak, b⟩ = x.came n := by
          unfold LE.acked; rw [HSD.out, if_pos ⟨z0, z1⟩]; rfl
        have HEA := Lib.hid ea
        clear ea
        go_wp2_with fail
        refine (came_any hE2 n (by omega)).mono ?_
        rintro e w3 ⟨rfl, hE3, hT3⟩
        go_wp2_with fail
        go_meet
        exact ⟨rfl, rfl, by rw [HEA.out]; exact hE3, (Turns.of_below hT2 _).trans hT3, (hT3.kept.block w.heap.size (by have := hT2.size; have := lt_of_block hB2; omega) (fun hm => by have := h0.lt hm; omega)).trans hB2⟩
    case rest =>
      obtain ⟨rfl, rfl, hE4, hT4, hB4⟩ := hcut
      have hwant : (x.acked ⟨k, x.epoch, sq, ak, b⟩).want = x.want := LE.acked_want _
      have HW := Lib.hid hwant
      have htk := taken_cases (x := x) ⟨k, x.epoch, sq, ak, b⟩ HF.out
      have HTK := Lib.hid htk
      clear hwant htk
      have hok4 := hE4.ok
      generalize x.acked ⟨k, x.epoch, sq, ak, b⟩ = y at *
      obtain ⟨A4, c4, G4, eG, hn4, hst4, hv4⟩ := hE4.lies
      obtain rfl : G4 = G := by simpa using eG.symm
      clear eG hcc hb hb2 hE2 hT2 hB2 c7'
      have k8 := cell_of_block hst4 8
      have k9 := cell_of_block hst4 9
      simp [ends] at k8 k9
      rw [HW.out] at k8
      have f8 := frozen_of_block hst4 8
      have f9 := frozen_of_block hst4 9
      unfold box at hB4
      have b0 := cell_of_block hB4 0
      have b2 := cell_of_block hB4 2
      have b4 := cell_of_block hB4 4
      simp at b0 b2 b4
      have hne : w.heap.size ≠ p := by omega
      by_cases hk : k = 1
      · subst hk
        by_cases hq : sq = x.want
        · subst hq
          obtain ⟨t1, t2, t3⟩ := HTK.out.2.2 rfl rfl
          have T1 := Lib.hid t1
          have T2 := Lib.hid t2
          have T3 := Lib.hid t3
          clear t1 t2 t3
          go_wp2_with fail
          go_quiet (fail)
          go_wp2_with fail
          go_ret2
          have hok5 : ({ y.owed with want := u (x.want + 1) } : LE).Ok := ⟨hok4.w1, hok4.w8, hok4.q64, hok4.t1, hok4.t100, hok4.len, hok4.oe, hok4.ew, hok4.el, hok4.age, hok4.fu, u_idem _⟩
          obtain ⟨r1, r2⟩ := EndIs.turned (A' := A4) (c' := c4) (y := { y.owed with want := u (x.want + 1) }) hn4 (set_block (w := (World.setCell _ ⟨p, 9, none⟩ (.bool true)).drewN nq) (set_block hst4 9 (.bool true)) 8 (.int .u64 (IntKind.u64.wrap (x.want + 1)))) (by simp [ends, LE.owed, u]) (by exact hv4) hok5 ((((Kept.refl [p] _).setCell (.inl (by simp)) _).drewN nq).setCell (.inl (by simp)) _)
          exact ⟨ret_sb T2.out.symm T3.out.symm, by rw [T1.out]; exact r1, hT4.trans r2⟩
        · have hd1 : (sq == x.want) = false := beq_eq_false_iff_ne.2 hq
          have hd2 : (sq != x.want) = true := bne_iff_ne.2 hq
          obtain ⟨t1, t2, t3⟩ := HTK.out.2.1 rfl hq
          have T1 := Lib.hid t1
          have T2 := Lib.hid t2
          have T3 := Lib.hid t3
          clear t1 t2 t3
          go_wp2_with fail
          go_quiet (fail)
          go_wp2_with fail
          go_ret2
          obtain ⟨r1, r2⟩ := EndIs.turned (A' := A4) (c' := c4) (y := y.owed) (w2 := (World.setCell _ ⟨p, 9, none⟩ (.bool true)).drewN nq) hn4 (set_block hst4 9 (.bool true)) (by simp [ends, LE.owed]) (by exact hv4) hok4.owed (((Kept.refl [p] _).setCell (.inl (by simp)) _).drewN nq)
          exact ⟨ret_sb T2.out.symm T3.out.symm, by rw [T1.out]; exact r1, hT4.trans r2⟩
      · have hd1 : (k == 1) = false := beq_eq_false_iff_ne.2 hk
        have hd2 : (k != 1) = true := bne_iff_ne.2 hk
        obtain ⟨t1, t2, t3⟩ := HTK.out.1 hk
        have T1 := Lib.hid t1
        have T2 := Lib.hid t2
        have T3 := Lib.hid t3
        clear t1 t2 t3
        go_wp2_with fail
        go_ret2
        exact ⟨ret_sb T2.out.symm T3.out.symm, by rw [T1.out]; exact hE4, hT4⟩
end
end Go.Proofs.YtihhflajkohibaaGreatDoor.Link
/- Layer 9: what lets frames out of an end in memory. Conditions: the end lies (EndIs), and is one that may be (Ok). -/
namespace Go.Proofs.YtihhflajkohibaaGreatDoor.Link
set_option linter.unusedSimpArgs false
set_option linter.unusedVariables false
set_option maxRecDepth 100000
open Go.RowKit
def Fr.cells (f : Fr) : List Value := [.int .i64 f.kind, .int .i64 f.epoch, .int .u64 f.seq, .int .u64 f.ack, .string f.body]
theorem take_any {w : World} {p : Nat} {F : List Nat} {x : LE} (h : EndIs w p F x) (f : Fr) :
    Calls Tryz.prog 49 #[.pointer (some ⟨p, 0, none⟩), f.val] w fun e w' => e = .returned (.tuple #[.string (x.told f), .bool (x.isNext f)]) ∧ EndIs w' p F (x.taken f) ∧ Turns F F w w' := by
  cases hf : x.fits f
  · have e1 : x.isNext f = false := by simp [LE.isNext, hf]
    have e2 : x.told f = ⟨#[]⟩ := by unfold LE.told; rw [e1]; rfl
    have e3 : x.taken f = x := by unfold LE.taken; rw [hf]; rfl
    rw [e1, e2, e3]
    exact (take_no h f hf).mono fun _ _ ⟨he, hb⟩ => ⟨he, h.after hb, Turns.of_below hb _⟩
  · obtain ⟨k, ep, sq, ak, b⟩ := f
    simp only [LE.fits, Bool.and_eq_true, decide_eq_true_eq] at hf
    obtain ⟨h1, rfl⟩ := hf
    exact take_yes h k sq ak b h1
theorem frame_info : (Tryz.prog.info? 83).map (fun i => (i.zero, i.size, i.bytes)) = some (some (.agg #[.int .i64 0, .int .i64 0, .int .u64 0, .int .u64 0, .string ⟨#[]⟩]), 5, 48) := by kernel_rfl

/-- the row of frames that is being made, in its box -/
structure Row (w : World) (b : Nat) (G : List Nat) (l : List Fr) : Prop where
  lies : ∃ A c, w.heap[b]? = some (.cells #[.slice A l.length c] 79 (0, 0)) ∧ Vec w G 5 A l.length c (l.flatMap Fr.cells)
  apart : b ∉ G
theorem Row.keep {w w' : World} {b : Nat} {G : List Nat} {l : List Fr} (h : Row w b G l) (hs : w.heap.size ≤ w'.heap.size) (hb : w'.heap[b]? = w.heap[b]?) (hG : ∀ k, k ∈ G → w'.heap[k]? = w.heap[k]?) : Row w' b G l := by
  obtain ⟨A, c, h1, h2⟩ := h.lies
  exact ⟨⟨A, c, hb.trans h1, h2.keep hs hG⟩, h.apart⟩
theorem Row.drewN {w : World} {b : Nat} {G : List Nat} {l : List Fr} (h : Row w b G l) (n : Nat) : Row (w.drewN n) b G l := h.keep (Nat.le_refl _) rfl fun _ _ => rfl
theorem Lies.drewN {w : World} {p : Nat} {F : List Nat} {x : LE} (h : Lies w p F x) (n : Nat) : Lies (w.drewN n) p F x := h.keep (Nat.le_refl _) fun _ _ => rfl
set_option maxHeartbeats 1000000 in
theorem put_any {w : World} {p X b : Nat} {F G : List Nat} {x : LE} {l : List Fr} (h : Lies w p F x) (hr : Row w b G l) (hx : w.heap[X]? = some (.cells #[.pointer (some ⟨p, 0, none⟩)] 66 (0, 0))) (hl : l.length ≤ 100) (hXG : X ∉ G) (hpG : p ∉ G) (k sq : Int) (s : ByteArray) :
    Calls Tryz.prog 61 #[.int .i64 k, .int .u64 sq, .string s, .pointer (some ⟨b, 0, none⟩), .pointer (some ⟨X, 0, none⟩)] w fun e w' => e = .returned (.tuple #[]) ∧ ∃ G', Row w' b G' (l ++ [⟨k, x.epoch, sq, x.want, s⟩]) ∧ Turns (b :: G) (b :: G') w w' := by
  obtain ⟨A, c, G0, rfl, hn, hst, hv⟩ := h
  obtain ⟨A1, c1, hb1, hv1⟩ := hr.lies
  have hbG := hr.apart
  have c0 := cell_of_block hst 0
  have c8 := cell_of_block hst 8
  have d0 := cell_of_block hb1 0
  have e0 := cell_of_block hx 0
  have fb := frozen_of_block hb1 0
  simp [ends] at c0 c8 d0 e0
  have hbl := lt_of_block hb1
  obtain ⟨i0, hi0, hz0, hz1, hz2⟩ := info_parts frame_info
  have hv2 : Vec (w.alloc (.cells #[.int .i64 k, .int .i64 x.epoch, .int .u64 sq, .int .u64 x.want, .string s] 83)).drew G 5 A1 l.length c1 (l.flatMap Fr.cells) := (hv1.alloc _).drew
  have hs2 : Src Tryz.prog 5 79 (.slice (some ⟨w.heap.size, 0, none⟩) 1 1) 1 [.int .i64 k, .int .i64 x.epoch, .int .u64 sq, .int .u64 x.want, .string s] (w.alloc (.cells #[.int .i64 k, .int .i64 x.epoch, .int .u64 sq, .int .u64 x.want, .string s] 83)).drew :=
    src_new (w := (w.alloc _).drew) Tryz.underlying79 [.int .i64 k, .int .i64 x.epoch, .int .u64 sq, .int .u64 x.want, .string s] 5 1 1 rfl (by simp [Value.oneCell']) w.heap.size (heap_alloc_new w _)
  have HV := Lib.hid hv2
  have HS := Lib.hid hs2
  clear hv2 hs2
  go_enter Tryz.func61, Tryz.ntmps61
  go_wp2_with fail
  refine wp_region_last (fun w' => w'.cell? ⟨b, 0, none⟩ = some (.slice A1 l.length c1) ∧ w'.cell? ⟨X, 0, none⟩ = some (.pointer (some ⟨p, 0, none⟩)) ∧ w'.cell? ⟨p, 0, none⟩ = some (.int .i64 x.epoch) ∧ w'.cell? ⟨p, 8, none⟩ = some (.int .u64 x.want)) 15 (by kernel_rfl) ?_
  refine AnyL.take (i := 0) (u := ?_) rfl (by kernel_rfl) (by kernel_rfl) (by kernel_rfl) (fun _ _ _ h => h) (by kernel_rfl) (by kernel_rfl) (Or.inl ⟨by rfl, ?_⟩) ⟨d0, e0, c0, c8⟩ ?_
  rotate_left
  · (intro w9 hSw; (try dsimp only at hSw); go_simp; (try with_reducible rfl))
  try simp only [Act.put, List.setIfInBounds_toArray, List.set_cons_zero, List.set_cons_succ]
  refine AnyL.take (i := 1) (u := ?_) rfl (by kernel_rfl) (by kernel_rfl) (by kernel_rfl) (fun _ _ _ h => h) (by kernel_rfl) (by kernel_rfl) (Or.inl ⟨by rfl, ?_⟩) ⟨d0, e0, c0, c8⟩ ?_
  rotate_left
  · (intro w9 hSw; (try dsimp only at hSw); go_simp; (try with_reducible rfl))
  try simp only [Act.put, List.setIfInBounds_toArray, List.set_cons_zero, List.set_cons_succ]
  refine AnyL.take (i := 2) (u := ?_) rfl (by kernel_rfl) (by kernel_rfl) (by kernel_rfl) (fun _ _ _ h => h) (by kernel_rfl) (by kernel_rfl) (Or.inl ⟨by rfl, ?_⟩) ⟨d0, e0, c0, c8⟩ ?_
  rotate_left
  · (intro w9 hSw; (try dsimp only at hSw); go_simp; (try with_reducible rfl))
  try simp only [Act.put, List.setIfInBounds_toArray, List.set_cons_zero, List.set_cons_succ]
  refine AnyL.take (i := 3) (u := ?_) rfl (by kernel_rfl) (by kernel_rfl) (by kernel_rfl) (fun _ _ _ h => h) (by kernel_rfl) (by kernel_rfl) (Or.inl ⟨by rfl, ?_⟩) ⟨d0, e0, c0, c8⟩ ?_
  rotate_left
  · (intro w9 hSw; (try dsimp only at hSw); go_simp; (try with_reducible rfl))
  try simp only [Act.put, List.setIfInBounds_toArray, List.set_cons_zero, List.set_cons_succ]
  refine AnyL.take (i := 4) (u := ?_) rfl (by kernel_rfl) (by kernel_rfl) (by kernel_rfl) (fun _ _ _ h => h) (by kernel_rfl) (by kernel_rfl) (Or.inl ⟨by rfl, ?_⟩) ⟨d0, e0, c0, c8⟩ ?_
  rotate_left
  · (intro w9 hSw; (try dsimp only at hSw); go_simp; (try with_reducible rfl))
  try simp only [Act.put, List.setIfInBounds_toArray, List.set_cons_zero, List.set_cons_succ]
  refine AnyL.take (i := 5) (u := ?_) rfl (by kernel_rfl) (by kernel_rfl) (by kernel_rfl) (fun _ _ _ h => h) (by kernel_rfl) (by kernel_rfl) (Or.inl ⟨by rfl, ?_⟩) ⟨d0, e0, c0, c8⟩ ?_
  rotate_left
  · (intro w9 hSw; (try dsimp only at hSw); go_simp; (try with_reducible rfl))
  try simp only [Act.put, List.setIfInBounds_toArray, List.set_cons_zero, List.set_cons_succ]
  refine AnyL.take (i := 6) (u := ?_) rfl (by kernel_rfl) (by kernel_rfl) (by kernel_rfl) (fun _ _ _ h => h) (by kernel_rfl) (by kernel_rfl) (Or.inl ⟨by rfl, ?_⟩) ⟨d0, e0, c0, c8⟩ ?_
  rotate_left
  · (intro w9 hSw; (try dsimp only at hSw); go_simp; (try with_reducible rfl))
  try simp only [Act.put, List.setIfInBounds_toArray, List.set_cons_zero, List.set_cons_succ]
  refine AnyL.take (i := 7) (u := ?_) rfl (by kernel_rfl) (by kernel_rfl) (by kernel_rfl) (fun _ _ _ h => h) (by kernel_rfl) (by kernel_rfl) (Or.inl ⟨by rfl, ?_⟩) ⟨d0, e0, c0, c8⟩ ?_
  rotate_left
  · (intro w9 hSw; (try dsimp only at hSw); go_simp; (try with_reducible rfl))
  try simp only [Act.put, List.setIfInBounds_toArray, List.set_cons_zero, List.set_cons_succ]
  refine AnyL.take (i := 8) (u := ?_) rfl (by kernel_rfl) (by kernel_rfl) (by kernel_rfl) (fun _ _ _ h => h) (by kernel_rfl) (by kernel_rfl) (Or.inl ⟨by rfl, ?_⟩) ⟨d0, e0, c0, c8⟩ ?_
  rotate_left
  · (intro w9 hSw; (try dsimp only at hSw); go_simp; (try with_reducible rfl))
  try simp only [Act.put, List.setIfInBounds_toArray, List.set_cons_zero, List.set_cons_succ]
  refine AnyL.take (i := 9) (u := ?_) rfl (by kernel_rfl) (by kernel_rfl) (by kernel_rfl) (fun _ _ _ h => h) (by kernel_rfl) (by kernel_rfl) (Or.inl ⟨by rfl, ?_⟩) ⟨d0, e0, c0, c8⟩ ?_
  rotate_left
  · (intro w9 hSw; (try dsimp only at hSw); go_simp; (try with_reducible rfl))
  try simp only [Act.put, List.setIfInBounds_toArray, List.set_cons_zero, List.set_cons_succ]
  refine AnyL.take (i := 10) (u := ?_) rfl (by kernel_rfl) (by kernel_rfl) (by kernel_rfl) (fun _ _ _ h => h) (by kernel_rfl) (by kernel_rfl) (Or.inl ⟨by rfl, ?_⟩) ⟨d0, e0, c0, c8⟩ ?_
  rotate_left
  · (intro w9 hSw; (try dsimp only at hSw); go_simp; (try with_reducible rfl))
  try simp only [Act.put, List.setIfInBounds_toArray, List.set_cons_zero, List.set_cons_succ]
  refine AnyL.take (i := 11) (u := ?_) rfl (by kernel_rfl) (by kernel_rfl) (by kernel_rfl) (fun _ _ _ h => h) (by kernel_rfl) (by kernel_rfl) (Or.inl ⟨by rfl, ?_⟩) ⟨d0, e0, c0, c8⟩ ?_
  rotate_left
  · (intro w9 hSw; (try dsimp only at hSw); go_simp; (try with_reducible rfl))
  try simp only [Act.put, List.setIfInBounds_toArray, List.set_cons_zero, List.set_cons_succ]
  refine AnyL.take (i := 12) (u := ?_) rfl (by kernel_rfl) (by kernel_rfl) (by kernel_rfl) (fun _ _ _ h => h) (by kernel_rfl) (by kernel_rfl) (Or.inl ⟨by rfl, ?_⟩) ⟨d0, e0, c0, c8⟩ ?_
  rotate_left
  · (intro w9 hSw; (try dsimp only at hSw); go_simp; (try with_reducible rfl))
  try simp only [Act.put, List.setIfInBounds_toArray, List.set_cons_zero, List.set_cons_succ]
  refine AnyL.only (i := 13) (by kernel_rfl) rfl (fun K hK => ?_)
  go_simp
  refine hK _ _ (fun _ => ⟨?_, ?_, ?_, ?_⟩) (fun _ => ?_)
  · exact (World.cell?_alloc_lt _ _ _ (by exact hbl)).trans d0
  · exact (World.cell?_alloc_lt _ _ _ (by exact lt_of_block hx)).trans e0
  · exact (World.cell?_alloc_lt _ _ _ (by exact lt_of_block hst)).trans c0
  · exact (World.cell?_alloc_lt _ _ _ (by exact lt_of_block hst)).trans c8
  clear hK K
  refine AnyL.only (i := 14) (by kernel_rfl) rfl (fun K hK => ?_)
  refine step_append_vec _ (by rfl) _ _ _ _ (by rfl) 83 i0 _ 5 48 Tryz.underlying79 hi0 hz0 hz1 hz2 rfl G A1 l.length c1 (l.flatMap Fr.cells) _ 1 [.int .i64 k, .int .i64 x.epoch, .int .u64 sq, .int .u64 x.want, .string s] (by rfl) (by rfl) (by exact HV.out) (by exact HS.out) (by unfold maxLen; omega) (by omega) ?_
  intro v' w1 happ
  obtain ⟨G', A', c', rfl, hv', ht⟩ := happ.all
  have k0 := (ht.kept.cell (p := ⟨b, 0, none⟩) (by simp; omega) (by exact hbG)).trans ((World.cell?_alloc_lt _ _ _ (by exact hbl)).trans d0)
  have f0 := (ht.kept.frozen (p := ⟨b, 0, none⟩) (by simp; omega) (by exact hbG)).trans ((World.frozen?_alloc_past _ _ _ (by exact hbl)).trans fb)
  refine hK _ _ (fun _ => ⟨k0, ?_, ?_, ?_⟩) (fun _ => ?_)
  · exact (ht.kept.cell (p := ⟨X, 0, none⟩) (by have := lt_of_block hx; simp; omega) (by exact hXG)).trans ((World.cell?_alloc_lt _ _ _ (by exact lt_of_block hx)).trans e0)
  · exact (ht.kept.cell (p := ⟨p, 0, none⟩) (by have := lt_of_block hst; simp; omega) (by exact hpG)).trans ((World.cell?_alloc_lt _ _ _ (by exact lt_of_block hst)).trans c0)
  · exact (ht.kept.cell (p := ⟨p, 8, none⟩) (by have := lt_of_block hst; simp; omega) (by exact hpG)).trans ((World.cell?_alloc_lt _ _ _ (by exact lt_of_block hst)).trans c8)
  clear hK K
  refine AnyL.only (i := 15) (by kernel_rfl) rfl (fun K hK => ?_)
  go_simp
  refine hK _ _ (fun h => absurd rfl h) (fun _ => ?_)
  refine AnyL.done (by kernel_rfl) ?_
  go_wp2
  go_end0
  have hst1 := (ht.kept.block b (by simp; omega) hbG).trans ((Below.heap_alloc w (.cells #[.int .i64 k, .int .i64 x.epoch, .int .u64 sq, .int .u64 x.want, .string s] 83) b hbl).trans hb1)
  have hbG' : b ∉ G' := ht.apart (by simp; omega) hbG
  have hlen : (l ++ [(⟨k, x.epoch, sq, x.want, s⟩ : Fr)]).length = l.length + 1 := by simp
  refine ⟨rfl, G', ⟨⟨A', c', ?_, ?_⟩, hbG'⟩, (Turns.of_below (below_drewN ((Below.refl w.heap.size w).alloc (Nat.le_refl _) (.cells #[.int .i64 k, .int .i64 x.epoch, .int .u64 sq, .int .u64 x.want, .string s] 83)) 1) _).trans ((ht.cons b).trans ⟨(Kept.refl _ _).setCell (p := ⟨b, 0, none⟩) (.inl (by simp)) _, fun _ h => .inl h⟩)⟩
  · rw [set_block hst1, hlen]; rfl
  · rw [hlen]
    have := hv'.setCell (p := ⟨b, 0, none⟩) hbG' (.slice A' (l.length + 1) c')
    simpa [List.flatMap_append, Fr.cells] using this
end Go.Proofs.YtihhflajkohibaaGreatDoor.Link
/- Layer 9: the frames that go out of an end. Conditions: the end lies (EndIs), and is one that may be (Ok). -/
namespace Go.Proofs.YtihhflajkohibaaGreatDoor.Link
set_option linter.unusedSimpArgs false
set_option linter.unusedVariables false
set_option maxRecDepth 100000
open Go.RowKit
theorem ret_slice {A : Option Addr} {n n' c : Nat} (h : n = n') : Ending.returned (.slice A n c) = .returned (.slice A n' c) := by rw [h]
def LE.at (x : LE) (k : Nat) : LE := { x with out := k }
def LE.sofar (x : LE) (k : Nat) : List Fr := (List.range' x.out (k - x.out)).map x.data
theorem sofar_step (x : LE) (k : Nat) (h : x.out ≤ k) : x.sofar k ++ [x.data k] = x.sofar (k + 1) := by
  unfold LE.sofar
  rw [show k + 1 - x.out = (k - x.out) + 1 from by omega, List.range'_concat, List.map_append, List.map_singleton]
  simp
  congr 1; omega
/-- how many are out, by the cell -/
def outOf (w : World) (p : Nat) : Nat := match w.cell? ⟨p, 6, none⟩ with | some (.int _ n) => n.toNat | _ => 0
structure OutRel (w : World) (p : Nat) (F : List Nat) (x : LE) (k : Nat) (G : List Nat) (wr : World) : Prop where
  k1 : x.out ≤ k
  k2 : k ≤ x.most
  lies : Lies wr p F (x.at k)
  row : Row wr (w.heap.size + 1) G (x.sofar k)
  box : wr.heap[w.heap.size]? = some (.cells #[.pointer (some ⟨p, 0, none⟩)] 66 (0, 0))
  new : ∀ j, j ∈ G → w.heap.size + 2 ≤ j
  kept : Kept F w wr
theorem OutRel.drewN {w : World} {p : Nat} {F : List Nat} {x : LE} {k : Nat} {G : List Nat} {wr : World} (h : OutRel w p F x k G wr) (n : Nat) : OutRel w p F x k G (wr.drewN n) :=
  ⟨h.k1, h.k2, h.lies.drewN n, h.row.drewN n, h.box, h.new, h.kept.drewN n⟩
/-- behind a call that turned nothing but the row -/
theorem OutRel.rowed {w : World} {p : Nat} {F : List Nat} {x : LE} {k : Nat} {G G' : List Nat} {wr w1 : World} (h : OutRel w p F x k G wr) (hF : ∀ j, j ∈ F → j < w.heap.size)
    (ht : Turns ((w.heap.size + 1) :: G) ((w.heap.size + 1) :: G') wr w1) : Lies w1 p F (x.at k) ∧ w1.heap[w.heap.size]? = some (.cells #[.pointer (some ⟨p, 0, none⟩)] 66 (0, 0)) ∧ Kept F w w1 := by
  have hapart : ∀ j, j < w.heap.size + 1 → j ∉ (w.heap.size + 1) :: G := fun j hj hm => by
    rcases List.mem_cons.1 hm with e | e
    · omega
    · have := h.new j e; omega
  refine ⟨h.lies.keep ht.kept.size fun j hj => ht.kept.block j (h.lies.lt hj) (hapart j (by have := hF j hj; omega)), (ht.kept.block _ (lt_of_block h.box) (hapart _ (by omega))).trans h.box, ?_⟩
  exact ⟨ht.kept.os.trans h.kept.os, ht.kept.tape.trans h.kept.tape, ht.kept.output.trans h.kept.output, Nat.le_trans h.kept.size ht.kept.size,
    fun j hj hn => (ht.kept.block j (Nat.lt_of_lt_of_le hj h.kept.size) (hapart j (by omega))).trans (h.kept.block j hj hn)⟩
theorem new_rows {w wr w1 : World} {G G' : List Nat} (hn : ∀ j, j ∈ G → w.heap.size + 2 ≤ j) (hs : w.heap.size + 2 ≤ wr.heap.size) (ht : Turns ((w.heap.size + 1) :: G) ((w.heap.size + 1) :: G') wr w1) (hb : w.heap.size + 1 ∉ G') : ∀ j, j ∈ G' → w.heap.size + 2 ≤ j := by
  intro j hj
  rcases ht.new j (List.mem_cons_of_mem _ hj) with e | e
  · rcases List.mem_cons.1 e with e | e
    · subst e; exact absurd hj hb
    · exact hn j e
  · omega
theorem OutRel.step {w : World} {p : Nat} {F : List Nat} {x : LE} {k : Nat} {G G' : List Nat} {wr w1 w2 : World} (h : OutRel w p F x k G wr) (hlt : k < x.most) (hpF : p ∈ F) (hF : ∀ j, j ∈ F → j < w.heap.size)
    (hR : Row w1 (w.heap.size + 1) G' (x.sofar k ++ [x.data k])) (ht : Turns ((w.heap.size + 1) :: G) ((w.heap.size + 1) :: G') wr w1) (e : w2 = w1.setCell ⟨p, 6, none⟩ (.int .i64 ((k : Int) + 1))) : OutRel w p F x (k + 1) G' w2 ∧ outOf w2 p = k + 1 := by
  subst e
  have hp := hF p hpF
  have hbl : w.heap.size + 2 ≤ wr.heap.size := by
    obtain ⟨_, _, hb, _⟩ := h.row.lies
    have := lt_of_block hb; omega
  obtain ⟨hL, hB, hK⟩ := h.rowed hF ht
  have hnew := new_rows h.new hbl ht hR.apart
  have hpG : p ∉ G' := fun hm => by have := hnew p hm; omega
  rw [sofar_step x k h.k1] at hR
  obtain ⟨A, c, G0, rfl, hn, hst, hv⟩ := hL
  have h6 := cell_of_block hst 6
  simp [ends] at h6
  refine ⟨⟨by have := h.k1; omega, hlt, ⟨A, c, G0, rfl, hn, ?_, hv.setCell hn _⟩, hR.keep (by simp [World.setCell]) (Below.heap_setCell _ _ _ _ (by simp; omega)) (fun j hj => Below.heap_setCell _ _ _ _ (by simp; rintro rfl; exact hpG hj)), ?_, hnew, hK.setCell (.inl (by simp)) _⟩, ?_⟩
  · rw [set_block hst]; simp [ends, LE.at]
  · rw [set_other (p := ⟨p, 6, none⟩) (by simp; omega)]; exact hB
  · unfold outOf; rw [World.cell?_setCell_same _ _ _ h6]; simp
theorem turn_row {w wr w1 : World} {p : Nat} {F G G' : List Nat} {y : LE} (hL : Lies wr p F y) (hB : wr.heap[w.heap.size]? = some (.cells #[.pointer (some ⟨p, 0, none⟩)] 66 (0, 0))) (hK : Kept F w wr) (hnew : ∀ j, j ∈ G → w.heap.size + 2 ≤ j) (hF : ∀ j, j ∈ F → j < w.heap.size)
    (ht : Turns ((w.heap.size + 1) :: G) ((w.heap.size + 1) :: G') wr w1) : Lies w1 p F y ∧ w1.heap[w.heap.size]? = some (.cells #[.pointer (some ⟨p, 0, none⟩)] 66 (0, 0)) ∧ Kept F w w1 := by
  have hapart : ∀ j, j < w.heap.size + 1 → j ∉ (w.heap.size + 1) :: G := fun j hj hm => by
    rcases List.mem_cons.1 hm with e | e
    · omega
    · have := hnew j e; omega
  refine ⟨hL.keep ht.kept.size fun j hj => ht.kept.block j (hL.lt hj) (hapart j (by have := hF j hj; omega)), (ht.kept.block _ (lt_of_block hB) (hapart _ (by omega))).trans hB, ?_⟩
  exact ⟨ht.kept.os.trans hK.os, ht.kept.tape.trans hK.tape, ht.kept.output.trans hK.output, Nat.le_trans hK.size ht.kept.size,
    fun j hj hn => (ht.kept.block j (Nat.lt_of_lt_of_le hj hK.size) (hapart j (by omega))).trans (hK.block j hj hn)⟩
def LE.seen (x : LE) : LE := { x with out := x.most, ever := x.most }
theorem out_end {w wz w2 : World} {p b : Nat} {F G : List Nat} {x : LE} {l : List Fr} {A : Option Addr} {c : Nat} (hL : Lies wz p F x.seen) (hv : Vec wz G 5 A l.length c (l.flatMap Fr.cells)) (hl : l = x.goes) (hK : Kept F w wz)
    (hok : x.Ok) (hpF : p ∈ F) (hF : ∀ j, j ∈ F → j < w.heap.size) (hnew : ∀ j, j ∈ G → w.heap.size + 2 ≤ j) (e : w2 = wz.setCell ⟨p, 9, none⟩ (.bool false)) :
    Vec w2 G 5 A x.goes.length c (x.goes.flatMap Fr.cells) ∧ (∀ k, k ∈ G → w.heap.size ≤ k) ∧ EndIs w2 p F x.gone ∧ Turns F F w w2 := by
  subst e; subst hl
  have hp := hF p hpF
  have hpG : p ∉ G := fun hm => by have := hnew p hm; omega
  refine ⟨hv.setCell hpG _, fun k hk => by have := hnew k hk; omega, ?_, ⟨hK.setCell (.inl hpF) _, fun _ h => .inl h⟩⟩
  obtain ⟨A0, c0, G0, rfl, hn, hst, hv0⟩ := hL
  refine ⟨⟨A0, c0, G0, rfl, hn, ?_, hv0.setCell hn _⟩, hok.gone⟩
  rw [set_block hst]; simp [ends, LE.gone, LE.seen]
theorem OutRel.seen {w : World} {p : Nat} {F : List Nat} {x : LE} {G : List Nat} {wr w2 : World} (h : OutRel w p F x x.most G wr) (hpF : p ∈ F) (hF : ∀ j, j ∈ F → j < w.heap.size) (e : w2 = wr.setCell ⟨p, 7, none⟩ (.int .i64 (x.most : Int))) :
    Lies w2 p F x.seen ∧ Row w2 (w.heap.size + 1) G (x.sofar x.most) ∧ w2.heap[w.heap.size]? = some (.cells #[.pointer (some ⟨p, 0, none⟩)] 66 (0, 0)) ∧ Kept F w w2 := by
  subst e
  have hp := hF p hpF
  have hpG : p ∉ G := fun hm => by have := h.new p hm; omega
  refine ⟨?_, h.row.keep (by simp [World.setCell]) (Below.heap_setCell _ _ _ _ (by simp; omega)) (fun j hj => Below.heap_setCell _ _ _ _ (by simp; rintro rfl; exact hpG hj)), ?_, h.kept.setCell (.inl hpF) _⟩
  · obtain ⟨A, c, G0, rfl, hn, hst, hv⟩ := h.lies
    refine ⟨A, c, G0, rfl, hn, ?_, hv.setCell hn _⟩
    rw [set_block hst]; simp [ends, LE.at, LE.seen]
  · rw [set_other (p := ⟨p, 7, none⟩) (by simp; omega)]; exact h.box
set_option maxHeartbeats 4000000 in
theorem out_any {w : World} {p : Nat} {F : List Nat} {x : LE} (h : EndIs w p F x) :
    Calls Tryz.prog 38 #[.pointer (some ⟨p, 0, none⟩)] w fun e w' => ∃ A c G, e = .returned (.slice A x.goes.length c) ∧ Vec w' G 5 A x.goes.length c (x.goes.flatMap Fr.cells) ∧ (∀ k, k ∈ G → w.heap.size ≤ k) ∧ EndIs w' p F x.gone ∧ Turns F F w w' := by
  have hok := h.ok
  have hFl := fun k => h.lt (k := k)
  have hpF := h.mem
  have hpl := h.lt hpF
  have h1 := hok.w8
  have h2 := hok.len
  have h3 := hok.q64
  have h4 := hok.out_most
  have h5 : x.most = min x.window x.bodies.length := rfl
  have h0 := h.lies
  have hstart : OutRel w p F x x.out [] ((w.alloc (.cells #[.pointer (some ⟨p, 0, none⟩)] 66)).alloc (.cells #[.slice none 0 0] 79)) := by
    refine ⟨Nat.le_refl _, h4, ?_, ⟨⟨none, 0, ?_, ?_⟩, by simp⟩, ?_, by simp, ((Kept.refl _ _).alloc _).alloc _⟩
    · exact h0.keep (by simp; omega) fun k hk => by rw [Below.heap_alloc _ _ _ (by have := hFl k hk; simp; omega), Below.heap_alloc _ _ _ (hFl k hk)]
    · have := heap_alloc_new (w.alloc (.cells #[.pointer (some ⟨p, 0, none⟩)] 66)) (.cells #[.slice none 0 0] 79)
      simpa [LE.sofar] using this
    · simpa [LE.sofar] using Vec.nil _ 5
    · rw [Below.heap_alloc _ _ _ (by simp)]; exact heap_alloc_new w _
  have HST := Lib.hid hstart
  have H5 := Lib.hid h5
  clear hok hstart h5
  go_enter Tryz.func38, Tryz.ntmps38
  go_wp2_with fail
  go_loopw [20] (fun _t wr => ∃ k G, OutRel w p F x k G wr) (fun _ wr => x.most - outOf wr p)
  case atStart => exact ⟨x.out, [], HST.out⟩
  case round =>
    obtain ⟨k, G, hr⟩ := hrel
    have hk1 := hr.k1
    have hk2 := hr.k2
    obtain ⟨A, c, G0, hF, hn, hst, hv⟩ := hr.lies
    have HF := Lib.hid hF
    have c1 := cell_of_block hst 1
    have c4 := cell_of_block hst 4
    have c5 := cell_of_block hst 5
    have c6 := cell_of_block hst 6
    simp [ends, LE.at] at c1 c4 c5 c6
    have f6 := frozen_of_block hst 6
    have x0 := cell_of_block hr.box 0
    simp at x0
    have hmu : outOf wr p = k := by unfold outOf; rw [c6]; simp
    have HMU := Lib.hid hmu
    have hvl := hv.le
    have hvm := hv.max
    clear hF hmu
    have c7 := cell_of_block hst 7
    simp [ends, LE.at] at c7
    have f7 := frozen_of_block hst 7
    have f9 := frozen_of_block hst 9
    by_cases hlt : k < x.most
    · have hbk : (x.bodies.map Value.string)[k]? = some (.string (x.bodies.getD k ⟨#[]⟩)) := by
        have := H5.out
        rw [List.getElem?_map, List.getD_eq_getElem?_getD, List.getElem?_eq_getElem (by omega)]; rfl
      obtain ⟨g, off, rfl, hG0, hgl, hce⟩ := hv.at hbk
      have hd1 : decide (k < x.window) = true := by have := H5.out; simp; omega
      have hd2 : decide (k < x.bodies.length) = true := by have := H5.out; simp; omega
      have hkl : (k : Int) < (x.bodies.length : Int) := by have := H5.out; omega
      have hk0 : (0 : Int) ≤ (k : Int) := by omega
      have hwk : IntKind.u64.wrap (k : Int) = (k : Int) := conv_in _ (by omega) (by omega)
      have hll : (x.sofar k).length ≤ 100 := by have := H5.out; simp [LE.sofar]; omega
      have hpl' := hr.lies.lt hpF
      have hXl := lt_of_block hr.box
      have hXG : w.heap.size ∉ G := fun hm => by have := hr.new _ hm; omega
      have hpG : p ∉ G := fun hm => by have := hr.new _ hm; omega
      have hXG1 : w.heap.size ∉ (w.heap.size + 1) :: G := by simp; exact hXG
      have hpG1 : p ∉ (w.heap.size + 1) :: G := by simp; exact ⟨by omega, hpG⟩
      have hgF : g ∈ F := by rw [HF.out, hG0]; simp
      have hgF2 := hFl g hgF
      have hgG1 : g ∉ (w.heap.size + 1) :: G := by simp; exact ⟨by omega, fun hm => by have := hr.new _ hm; omega⟩
      have HL := Lib.hid hr.lies
      have HR := Lib.hid hr.row
      have HX := Lib.hid hr.box
      have HBK := Lib.hid hbk
      have HG0 := Lib.hid hG0
      clear hbk hG0
      have hcase : (x.bodies.length : Int) < (x.window : Int) ∨ ¬ (x.bodies.length : Int) < (x.window : Int) := by omega
      rcases hcase with hmn | hmn
      all_goals
        go_wp2_with fail
        go_quiet (fail)
        go_wp2_with fail
        go_region_held3 (fun w' => w'.cell? ⟨w.heap.size, 0, none⟩ = some (.pointer (some ⟨p, 0, none⟩)) ∧ w'.cell? ⟨p, 6, none⟩ = some (.int .i64 (k : Int)) ∧ w'.cell? ⟨p, 5, none⟩ = some (.int .u64 x.first) ∧ w'.cell? ⟨p, 4, none⟩ = some (.slice (some ⟨g, off, none⟩) x.bodies.length c) ∧ w'.cell? ⟨g, off + k, none⟩ = some (.string (x.bodies.getD k ⟨#[]⟩))) (first | exact ⟨x0, c6, c5, c4, hce⟩ | exact ⟨q0, q6, q5, q4, qe⟩) ((go_at_call 61; refine (put_any (p := p) (X := w.heap.size) (F := F) (G := G) (x := x.at k) (l := x.sofar k) (by exact HL.out.drewN _) (by exact HR.out.drewN _) (by exact HX.out) hll hXG hpG _ _ _).mono ?_; rintro e w1 ⟨rfl, G', hR', hT'⟩; have q0 := (hT'.kept.cell (p := ⟨w.heap.size, 0, none⟩) (by exact hXl) (by exact hXG1)).trans x0; have q6 := (hT'.kept.cell (p := ⟨p, 6, none⟩) (by exact hpl') (by exact hpG1)).trans c6; have q5 := (hT'.kept.cell (p := ⟨p, 5, none⟩) (by exact hpl') (by exact hpG1)).trans c5; have q4 := (hT'.kept.cell (p := ⟨p, 4, none⟩) (by exact hpl') (by exact hpG1)).trans c4; have qe := (hT'.kept.cell (p := ⟨g, off + k, none⟩) (by exact hgl) (by exact hgG1)).trans hce; have qf6 := (hT'.kept.frozen (p := ⟨p, 6, none⟩) (by exact hpl') (by exact hpG1)).trans f6))
        obtain ⟨s1, s2⟩ := (hr.drewN (nq + 1)).step hlt hpF hFl hR' hT' rfl
        have S1 := Lib.hid s1
        have S2 := Lib.hid s2
        clear s1 s2
        go_wp2_with fail
        go_roundw
        case rel => exact ⟨k + 1, G', S1.out⟩
        case measure => rw [S2.out, HMU.out]; omega
    · obtain rfl : k = x.most := by omega
      have hev : ¬ (x.most : Int) < (x.ever : Int) := by have := H5.out; have := h.ok.ew; have := h.ok.el; omega
      have hev2 : (x.ever : Int) ≤ (x.most : Int) := by omega
      have hcase : ((x.bodies.length : Int) < (x.window : Int) ∧ decide (x.most < x.bodies.length) = false) ∨ (¬ (x.bodies.length : Int) < (x.window : Int) ∧ decide (x.most < x.window) = false) := by have := H5.out; simp; omega
      obtain ⟨A1, c1', hb1, hv1⟩ := hr.row.lies
      have d0 := cell_of_block hb1 0
      have c9 := cell_of_block hst 9
      simp [ends, LE.at] at d0 c9
      have hne1 : ¬ p = w.heap.size + 1 := by omega
      have hne2 : ¬ p = w.heap.size := by omega
      have hne3 : ¬ w.heap.size + 1 = p := by omega
      have hne4 : ¬ w.heap.size = p := by omega
      have hlen : (x.sofar x.most).length = x.most - x.out := by simp [LE.sofar]
      have hcz : (((x.sofar x.most).length : Int) == 0) = false ∧ x.acks = [] ∨ (((x.sofar x.most).length : Int) == 0) = true ∧ x.owes = false ∧ x.acks = [] ∨ (((x.sofar x.most).length : Int) == 0) = true ∧ x.owes = true ∧ x.acks = [⟨2, x.epoch, 0, x.want, ⟨#[]⟩⟩] ∧ (x.sofar x.most).length = 0 := by
        rcases Nat.lt_or_ge x.out x.most with hz | hz
        · exact .inl ⟨beq_eq_false_iff_ne.2 (by omega), by unfold LE.acks; rw [if_neg (by omega)]⟩
        · cases ho : x.owes
          · exact .inr (.inl ⟨by rw [beq_iff_eq]; omega, rfl, by unfold LE.acks; rw [if_neg (by simp [ho])]⟩)
          · exact .inr (.inr ⟨by rw [beq_iff_eq]; omega, rfl, by unfold LE.acks; rw [if_pos ⟨hz, ho⟩], by omega⟩)
      have HCZ := Lib.hid hcz
      have hll : (x.sofar x.most).length ≤ 100 := by have := H5.out; omega
      have HLL := Lib.hid hll
      clear hcz hlen hll
      rcases hcase with ⟨hmn, hd⟩ | ⟨hmn, hd⟩
      all_goals
        go_wp2_with fail
        go_quiet (fail)
        go_wp2_with fail
        refine wp_region_last (fun w' => w'.cell? ⟨w.heap.size, 0, none⟩ = some (.pointer (some ⟨p, 0, none⟩)) ∧ w'.cell? ⟨p, 6, none⟩ = some (.int .i64 (x.most : Int)) ∧ w'.cell? ⟨p, 7, none⟩ = some (.int .i64 (x.ever : Int))) 12 (by kernel_rfl) ?_
        refine AnyL.take (i := 0) (u := ?_) rfl (by kernel_rfl) (by kernel_rfl) (by kernel_rfl) (fun _ _ _ h => h) (by kernel_rfl) (by kernel_rfl) (Or.inl ⟨by rfl, ?_⟩) ⟨x0, c6, c7⟩ ?_
        rotate_left
        · (intro w9 hSw; (try dsimp only at hSw); go_simp; (try with_reducible rfl))
        try simp only [Act.put, List.setIfInBounds_toArray, List.set_cons_zero, List.set_cons_succ]
        refine AnyL.take (i := 1) (u := ?_) rfl (by kernel_rfl) (by kernel_rfl) (by kernel_rfl) (fun _ _ _ h => h) (by kernel_rfl) (by kernel_rfl) (Or.inl ⟨by rfl, ?_⟩) ⟨x0, c6, c7⟩ ?_
        rotate_left
        · (intro w9 hSw; (try dsimp only at hSw); go_simp; (try with_reducible rfl))
        try simp only [Act.put, List.setIfInBounds_toArray, List.set_cons_zero, List.set_cons_succ]
        refine AnyL.take (i := 2) (u := ?_) rfl (by kernel_rfl) (by kernel_rfl) (by kernel_rfl) (fun _ _ _ h => h) (by kernel_rfl) (by kernel_rfl) (Or.inl ⟨by rfl, ?_⟩) ⟨x0, c6, c7⟩ ?_
        rotate_left
        · (intro w9 hSw; (try dsimp only at hSw); go_simp; (try with_reducible rfl))
        try simp only [Act.put, List.setIfInBounds_toArray, List.set_cons_zero, List.set_cons_succ]
        refine AnyL.take (i := 3) (u := ?_) rfl (by kernel_rfl) (by kernel_rfl) (by kernel_rfl) (fun _ _ _ h => h) (by kernel_rfl) (by kernel_rfl) (Or.inl ⟨by rfl, ?_⟩) ⟨x0, c6, c7⟩ ?_
        rotate_left
        · (intro w9 hSw; (try dsimp only at hSw); go_simp; (try with_reducible rfl))
        try simp only [Act.put, List.setIfInBounds_toArray, List.set_cons_zero, List.set_cons_succ]
        refine AnyL.take (i := 4) (u := ?_) rfl (by kernel_rfl) (by kernel_rfl) (by kernel_rfl) (fun _ _ _ h => h) (by kernel_rfl) (by kernel_rfl) (Or.inl ⟨by rfl, ?_⟩) ⟨x0, c6, c7⟩ ?_
        rotate_left
        · (intro w9 hSw; (try dsimp only at hSw); go_simp; (try with_reducible rfl))
        try simp only [Act.put, List.setIfInBounds_toArray, List.set_cons_zero, List.set_cons_succ]
        refine AnyL.take (i := 5) (u := ?_) rfl (by kernel_rfl) (by kernel_rfl) (by kernel_rfl) (fun _ _ _ h => h) (by kernel_rfl) (by kernel_rfl) (Or.inl ⟨by rfl, ?_⟩) ⟨x0, c6, c7⟩ ?_
        rotate_left
        · (intro w9 hSw; (try dsimp only at hSw); go_simp; (try with_reducible rfl))
        try simp only [Act.put, List.setIfInBounds_toArray, List.set_cons_zero, List.set_cons_succ]
        refine AnyL.take (i := 6) (u := ?_) rfl (by kernel_rfl) (by kernel_rfl) (by kernel_rfl) (fun _ _ _ h => h) (by kernel_rfl) (by kernel_rfl) (Or.inl ⟨by rfl, ?_⟩) ⟨x0, c6, c7⟩ ?_
        rotate_left
        · (intro w9 hSw; (try dsimp only at hSw); go_simp; (try with_reducible rfl))
        try simp only [Act.put, List.setIfInBounds_toArray, List.set_cons_zero, List.set_cons_succ]
        refine AnyL.take (i := 7) (u := ?_) rfl (by kernel_rfl) (by kernel_rfl) (by kernel_rfl) (fun _ _ _ h => h) (by kernel_rfl) (by kernel_rfl) (Or.inl ⟨by rfl, ?_⟩) ⟨x0, c6, c7⟩ ?_
        rotate_left
        · (intro w9 hSw; (try dsimp only at hSw); go_simp; (try with_reducible rfl))
        try simp only [Act.put, List.setIfInBounds_toArray, List.set_cons_zero, List.set_cons_succ]
        refine AnyL.take (i := 8) (u := ?_) rfl (by kernel_rfl) (by kernel_rfl) (by kernel_rfl) (fun _ _ _ h => h) (by kernel_rfl) (by kernel_rfl) (Or.inl ⟨by rfl, ?_⟩) ⟨x0, c6, c7⟩ ?_
        rotate_left
        · (intro w9 hSw; (try dsimp only at hSw); go_simp; (try with_reducible rfl))
        try simp only [Act.put, List.setIfInBounds_toArray, List.set_cons_zero, List.set_cons_succ]
        refine AnyL.take (i := 9) (u := .int .i64 (x.most : Int)) rfl (by kernel_rfl) (by kernel_rfl) (by kernel_rfl) (fun _ _ _ h => h) (by kernel_rfl) (by kernel_rfl) (Or.inl ⟨by rfl, ?_⟩) ⟨x0, c6, c7⟩ ?_
        · (intro w9 hSw; (try dsimp only at hSw); go_simp; intro _; omega)
        try simp only [Act.put, List.setIfInBounds_toArray, List.set_cons_zero, List.set_cons_succ]
        refine AnyL.take (i := 10) (u := ?_) rfl (by kernel_rfl) (by kernel_rfl) (by kernel_rfl) (fun _ _ _ h => h) (by kernel_rfl) (by kernel_rfl) (Or.inl ⟨by rfl, ?_⟩) ⟨x0, c6, c7⟩ ?_
        rotate_left
        · (intro w9 hSw; (try dsimp only at hSw); go_simp; (try with_reducible rfl))
        try simp only [Act.put, List.setIfInBounds_toArray, List.set_cons_zero, List.set_cons_succ]
        refine AnyL.take (i := 11) (u := ?_) rfl (by kernel_rfl) (by kernel_rfl) (by kernel_rfl) (fun _ _ _ h => h) (by kernel_rfl) (by kernel_rfl) (Or.inl ⟨by rfl, ?_⟩) ⟨x0, c6, c7⟩ ?_
        rotate_left
        · (intro w9 hSw; (try dsimp only at hSw); go_simp; (try with_reducible rfl))
        try simp only [Act.put, List.setIfInBounds_toArray, List.set_cons_zero, List.set_cons_succ]
        refine AnyL.only (i := 12) (by kernel_rfl) rfl (fun K hK => ?_)
        go_simp
        refine hK _ _ (fun h => absurd rfl h) (fun _ => ?_)
        refine AnyL.done (by kernel_rfl) ?_
        have hsn := fun n => (hr.drewN n).seen hpF hFl rfl
        have HSN := Lib.hid hsn
        have hvn := fun n => (hv1.drewN n).setCell (p := ⟨p, 7, none⟩) (fun hm => by have := hr.new p hm; omega) (.int .i64 (x.most : Int))
        have HVN := Lib.hid hvn
        have HPG := Lib.hid (show p ∉ G from fun hm => by have := hr.new p hm; omega)
        have HXG := Lib.hid (show w.heap.size ∉ G from fun hm => by have := hr.new _ hm; omega)
        clear hsn hvn
        rcases HCZ.out with ⟨z1, z2⟩ | ⟨z1, z2, z3⟩ | ⟨z1, z2, z3, z4⟩
        · have hgo : x.sofar x.most = x.goes := by unfold LE.goes; rw [z2, List.append_nil]; rfl
          have HGO := Lib.hid hgo
          clear z2 hgo
          go_wp2
          go_ret
          obtain ⟨q1, q2, q3, q4⟩ := out_end (b := w.heap.size + 1) (HSN.out (nq + 1)).1 (HVN.out (nq + 1)) HGO.out (HSN.out (nq + 1)).2.2.2 h.ok hpF hFl hr.new rfl
          exact ⟨A1, c1', G, by rw [← HGO.out]; rfl, q1, q2, q3, q4⟩
        · have hgo : x.sofar x.most = x.goes := by unfold LE.goes; rw [z3, List.append_nil]; rfl
          have HGO := Lib.hid hgo
          clear z3 hgo
          rw [z2] at c9
          clear z2
          go_wp2
          go_ret
          obtain ⟨q1, q2, q3, q4⟩ := out_end (b := w.heap.size + 1) (HSN.out (nq + 1)).1 (HVN.out (nq + 1)) HGO.out (HSN.out (nq + 1)).2.2.2 h.ok hpF hFl hr.new rfl
          exact ⟨A1, c1', G, by rw [← HGO.out]; rfl, q1, q2, q3, q4⟩
        · have hgo : x.sofar x.most ++ [⟨2, x.epoch, 0, x.want, ⟨#[]⟩⟩] = x.goes := by unfold LE.goes; rw [z3]; rfl
          have HGO := Lib.hid hgo
          clear z3 hgo z4
          rw [z2] at c9
          clear z2
          go_wp2_with fail
          refine (put_any (p := p) (X := w.heap.size) (F := F) (G := G) (x := x.seen) (l := x.sofar x.most) (by exact (HSN.out (nq + 1)).1) (by exact (HSN.out (nq + 1)).2.1) (by exact (HSN.out (nq + 1)).2.2.1) HLL.out HXG.out HPG.out _ _ _).mono ?_
          rintro e w1 ⟨rfl, G', hR', hT'⟩
          obtain ⟨u1, u2, u3⟩ := turn_row (HSN.out (nq + 1)).1 (HSN.out (nq + 1)).2.2.1 (HSN.out (nq + 1)).2.2.2 hr.new hFl hT'
          have hnew' := new_rows hr.new (by have := lt_of_block hb1; simp [World.setCell]; omega) hT' hR'.apart
          obtain ⟨A2, c2, hb2, hv2⟩ := hR'.lies
          have e0 := cell_of_block hb2 0
          have e1 := cell_of_block u2 0
          obtain ⟨A3, c3, G3, hF3, hn3, hst3, hv3⟩ := u1
          have e9 := cell_of_block hst3 9
          have ef9 := frozen_of_block hst3 9
          simp only [List.getElem?_toArray, List.getElem?_cons_zero] at e0 e1
          simp [ends] at e9
          have U1 : Hid (Lies w1 p F x.seen) := Lib.hid ⟨A3, c3, G3, hF3, hn3, hst3, hv3⟩
          have HF3 := Lib.hid hF3
          clear hF3 z1
          go_wp2
          go_ret
          obtain ⟨q1, q2, q3, q4⟩ := out_end (b := w.heap.size + 1) U1.out hv2 HGO.out u3 h.ok hpF hFl hnew' rfl
          exact ⟨A2, c2, G', ret_slice (by rw [← HGO.out, List.length_append]; rfl), q1, q2, q3, q4⟩
end Go.Proofs.YtihhflajkohibaaGreatDoor.Link
