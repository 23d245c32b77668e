/- Layer 10: what goes out of a side goes on its way. Conditions: the pipe lies (PipeIs); the program's variables are as they were laid (Env). -/
import Derived.Test.YtihhflajkohibaaDoorPipe
import Derived.Test.YtihhflajkohibaaDoorFrVec
namespace Go.Proofs.YtihhflajkohibaaDoor.Pipe
set_option linter.unusedSimpArgs false
set_option linter.unusedVariables false
set_option maxRecDepth 100000
open Go.RowKit
open Go.Proofs.YtihhflajkohibaaDoor
open Go.Proofs.YtihhflajkohibaaDoor.Link (LE Fr EndIs)
open Go.Proofs.YtihhflajkohibaaDoor.Net (NS NetIs)
/-- so many of the frames went -/
def PS.sofar (s : PS) (me : Bool) (a b : Int) (fs : List Fr) (k : Nat) : PS := { s with e := up s.e me (s.e me).gone, n := (ways a b (s.n, 0) (fs.take k)).1 }
def cnt (s : PS) (a b : Int) (fs : List Fr) (k : Nat) : Nat := (ways a b (s.n, 0) (fs.take k)).2
theorem ways_le (a b : Int) (l : List Fr) : ∀ w : NS × Nat, (ways a b w l).2 ≤ w.2 + l.length := by
  induction l with
  | nil => intro w; exact Nat.le_refl _
  | cons f l ih =>
    intro w
    have h1 := ih (way a b w f)
    have h2 : (way a b w f).2 ≤ w.2 + 1 := by unfold way; split <;> (try split) <;> simp
    show (ways a b (way a b w f) l).2 ≤ _
    rw [List.length_cons]; omega
theorem cnt_le (s : PS) (a b : Int) (fs : List Fr) (k : Nat) : cnt s a b fs k ≤ k := by
  have := ways_le a b (fs.take k) (s.n, 0)
  rw [List.length_take] at this
  unfold cnt; simp only at this; omega
def GoSt (B : Nat) (w : World) (M : PM) (p : Nat) (s : PS) (me : Bool) (a b : Int) (fs : List Fr) (G : List Nat) (A : Option Addr) (c k : Nat) (wr : World) : Prop :=
  ∃ M' : PM, Lay B M' p (s.sofar me a b fs k) [vecT G 5 A fs.length c (fs.flatMap Fr.cells)] wr ∧ Turns (flat (things M p s)) (flat (things M' p (s.sofar me a b fs k))) w wr ∧ Env B wr
section
variable {B : Nat} {w wr w' : World} {M : PM} {p : Nat} {s : PS} {me : Bool} {a b : Int} {fs : List Fr} {G : List Nat} {A : Option Addr} {c k : Nat}
theorem GoSt.after (h : GoSt B w M p s me a b fs G A c k wr) (hb : Below wr.heap.size wr w') : GoSt B w M p s me a b fs G A c k w' := by
  obtain ⟨M', h1, h2, h3⟩ := h
  exact ⟨M', h1.after hb, h2.trans (Turns.of_below hb _), h3.below (hb.mono h3.le)⟩
theorem sofar_step {f : Fr} (hf : fs[k]? = some f) : (s.sofar me a b fs (k + 1)).n = (way a b ((s.sofar me a b fs k).n, cnt s a b fs k) f).1 ∧ cnt s a b fs (k + 1) = (way a b ((s.sofar me a b fs k).n, cnt s a b fs k) f).2 := by
  unfold PS.sofar cnt
  rw [ways_step a b _ _ hf]
  exact ⟨rfl, rfl⟩
theorem GoSt.same (h : GoSt B w M p s me a b fs G A c k wr) (e : (s.sofar me a b fs (k + 1)).n = (s.sofar me a b fs k).n) : GoSt B w M p s me a b fs G A c (k + 1) wr := by
  have : s.sofar me a b fs (k + 1) = s.sofar me a b fs k := by
    unfold PS.sofar at e ⊢
    simp only at e
    rw [e]
  unfold GoSt
  rw [this]
  exact h
theorem GoSt.net {q : Nat} {n : NS} (h : ∃ M', M'.q = q ∧ Lay B M' p (s.sofar me a b fs k) [vecT G 5 A fs.length c (fs.flatMap Fr.cells)] wr ∧ Turns (flat (things M p s)) (flat (things M' p (s.sofar me a b fs k))) w wr ∧ Env B wr ∧ ∃ G', NetIs w' q G' n ∧ Turns M'.G G' wr w')
    (e : (s.sofar me a b fs (k + 1)).n = n) : GoSt B w M p s me a b fs G A c (k + 1) w' := by
  obtain ⟨M', rfl, h1, h2, h3, G', hn, ht⟩ := h
  have hs := h1.setN h3.le hn ht
  have e2 : s.sofar me a b fs (k + 1) = { s.sofar me a b fs k with n := n } := by
    unfold PS.sofar at e ⊢
    simp only at e ⊢
    rw [e]
  unfold GoSt
  rw [e2]
  exact ⟨_, hs.lay, h2.trans hs.turns, h3.below hs.below⟩
end
section
variable {B : Nat} {w : World} {p : Nat} {F : List Nat} {s : PS}
set_option maxHeartbeats 1000000 in
theorem go_no (p : Value) (n : Int) (hn : isSide n = false) (w : World) : Calls Tryd.prog 16 #[p, .int .i64 n] w fun e w' => e = .returned (.int .i64 0) ∧ w = w' := by
  go_enter Tryd.func16, Tryd.ntmps16
  go_wp2_with fail
  refine (there_no _ n hn _).mono ?_
  rintro e w1 ⟨rfl, rfl⟩
  go_wp2_with fail
  go_ret
  exact ⟨rfl, rfl⟩
set_option maxHeartbeats 4000000 in
theorem go_yes (h : PipeIs B w p F s) (hv : Env B w) (me : Bool) : Calls Tryd.prog 16 #[.pointer (some ⟨p, 0, none⟩), .int .i64 (no me)] w (ActP B w p F (s.go me) (.int .i64 ((s.gone me).2 : Int))) := by
  obtain ⟨M, rfl, hl⟩ := h.lay
  obtain ⟨m, r, hm, hr, h1, h2, hm2, hr2, hmr⟩ := no_nat me
  have y0 := (cell_of_block hl.box m).trans (show (M.cells s)[m]? = some (.pointer (some ⟨M.e me, 0, none⟩)) from by rw [← hm]; exact cells_e M s me)
  have H := Lib.hid hl
  have HV := Lib.hid hv
  have m0 : (0 : Int) ≤ (m : Int) := by omega
  have m1 : (m : Int) < 2 := by omega
  obtain ⟨fs, hfs⟩ : ∃ fs, (s.e me).goes = fs := ⟨_, rfl⟩
  have HFS := Lib.hid hfs
  have HOK := Lib.hid (h.endOk me)
  have hfl : fs.length ≤ 1000 := by rw [← hfs]; exact Link.goes_le (h.endOk me)
  have HM := Lib.hid (And.intro h1 h2)
  have HP := Lib.hid (show s.go me = s.sofar me (m : Int) (r : Int) fs fs.length ∧ (s.gone me).2 = cnt s (m : Int) (r : Int) fs fs.length from by
    unfold PS.go PS.gone PS.sofar cnt; rw [h1, h2, hfs, List.take_length]; exact ⟨rfl, rfl⟩)
  rw [h1, HP.out.1, HP.out.2]
  clear h hl hv hm hr h1 h2 hfs
  have hw1 : IntKind.i64.wrap (1 - (m : Int)) = (r : Int) := by rw [hmr]; exact IntWalk.i64_in _ (by omega)
  go_enter Tryd.func16, Tryd.ntmps16
  go_wp2_with fail
  refine (there_yes _ m hm2 _).mono ?_
  rintro e w1 ⟨rfl, rfl⟩
  go_wp2_with fail
  refine (Link.out_any (H.out.e me)).mono ?_
  rw [HFS.out]
  rintro e w2 ⟨A5, c5, G5, rfl, hv5, hG5, he, ht⟩
  have hgo : GoSt B w M p s me (m : Int) (r : Int) fs G5 A5 c5 0 w2 := by
    have hB := HV.out.le
    have k := H.out.setE hB he ht
    have hM : ({ M with F := up M.F me (M.F me) } : PM) = M := by rw [up_id]
    rw [hM] at k
    refine ⟨M, ?_, k.turns, HV.out.below k.below⟩
    have k2 := k.lay
    have h0 := H.out
    unfold Lay at k2 h0 ⊢
    rw [List.append_nil] at k2 h0
    have k3 : Sep B w2 (vecT G5 5 A5 fs.length c5 (fs.flatMap Fr.cells) :: things M p (s.sofar me (m : Int) (r : Int) fs 0)) := .cons _ _ hv5 (vecT_local _ _ _ _ _ _) (fun j hj => Nat.le_trans hB (hG5 j hj)) (fun n hn j hj hjn => by
      have hm2 : j ∈ flat (things M p s) := show j ∈ flat (things M p { s with e := up s.e me (s.e me).gone }) from flat_mem.2 ⟨n, hn, hjn⟩
      have hj' := hG5 j hj
      obtain ⟨o, ho, hjo⟩ := flat_mem.1 hm2
      have := h0.lt ho hjo
      omega) k2
    exact Sep.perm k3 (List.perm_append_singleton _ _).symm
  have HGO := Lib.hid hgo
  clear hgo hv5 hG5 he ht y0
  go_wp2_with fail
  go_loopw [5, 22] (fun n i wr => ∃ k : Nat, k ≤ fs.length ∧ i = .int .i64 (k : Int) ∧ n = .int .i64 ((cnt s (m : Int) (r : Int) fs k : Nat) : Int) ∧ GoSt B w M p s me (m : Int) (r : Int) fs G5 A5 c5 k wr) (fun _ i _ => fs.length - (intOf i).toNat)
  case atStart => exact ⟨0, Nat.zero_le _, rfl, rfl, HGO.out⟩
  case round =>
    obtain ⟨k, hk, rfl, rfl, hs⟩ := hrel
    by_cases hlt : k < fs.length
    · have hd : decide ((k : Int) < (fs.length : Int)) = true := by simp; omega
      have k0 : (0 : Int) ≤ (k : Int) := by omega
      have k1 : (k : Int) < (fs.length : Int) := by omega
      obtain ⟨f, hf⟩ : ∃ f, fs[k]? = some f := ⟨_, List.getElem?_eq_getElem hlt⟩
      have HS := Lib.hid hs
      have HF := Lib.hid hf
      obtain ⟨M1, hl1, ht1, hv1⟩ := id hs
      have hvf := Link.vec_frame (hl1.x 0 rfl)
      rcases hvf with e0 | ⟨g5, o5, hA5, _, _, hfr⟩
      · rw [e0] at hf; cases hf
      subst hA5
      obtain ⟨z0, z1, z2, z3, z4⟩ := hfr k f hf
      have HV1 := Lib.hid hv1
      clear hs hf hfr hl1 ht1 hv1 hk
      have hB1 : Below wr.heap.size wr (wr.alloc (.cells #[.int .i64 f.kind, .int .i64 f.epoch, .int .u64 f.seq, .int .u64 f.ack, .string f.body] 57)) := (Below.refl _ _).alloc (Nat.le_refl _) _
      have HSA := Lib.hid (HS.out.after hB1)
      have HVA := Lib.hid (HV1.out.below (hB1.mono HV1.out.le))
      clear hB1
      cases hr : f.right
      · have HST := Lib.hid (show (s.sofar me (m : Int) (r : Int) fs (k + 1)).n = (s.sofar me (m : Int) (r : Int) fs k).n ∧ cnt s (m : Int) (r : Int) fs (k + 1) = cnt s (m : Int) (r : Int) fs k from by
          obtain ⟨e1, e2⟩ := sofar_step (s := s) (me := me) (a := (m : Int)) (b := (r : Int)) HF.out
          rw [e1, e2]
          unfold way
          rw [if_neg (by simp [hr])]
          exact ⟨rfl, rfl⟩)
        have HR := Lib.hid hr
        clear hr
        go_wp2_with fail
        refine (Frame.Put_no f HR.out _).mono ?_
        rintro e w3 ⟨rfl, hb3⟩
        have HS3 := Lib.hid (HSA.out.after hb3)
        clear hb3 z0 z1 z2 z3 z4
        go_wp2_with fail
        go_roundw
        case rel => exact ⟨k + 1, hlt, by go_num, by rw [HST.out.2], HS3.out.same HST.out.1⟩
        case measure => simp [intOf]; omega
      · have hfit : Frame.Fits f := goes_fits HOK.out (by rw [HFS.out]; exact List.mem_of_getElem? HF.out)
        obtain ⟨S, hS⟩ : ∃ S, bytes f = S := ⟨_, rfl⟩
        have HBY := Lib.hid hS
        have HR := Lib.hid hr
        have HFT := Lib.hid hfit
        clear hr hS hfit
        go_wp2_with fail
        refine (Frame.Put_is f S HR.out HFT.out HBY.out.symm _ HVA.out.tab).mono ?_
        rintro e w3 ⟨rfl, hb3⟩
        have HS3 := Lib.hid (HSA.out.after hb3)
        clear hb3 z0 z1 z2 z3 z4
        obtain ⟨M3, hl3, ht3, hv3⟩ := HS3.out
        have y4 := (cell_of_block hl3.box 4).trans (show (M3.cells (s.sofar me (m : Int) (r : Int) fs k))[4]? = some (.pointer (some ⟨M3.q, 0, none⟩)) from rfl)
        have HL3 := Lib.hid (And.intro hl3 (And.intro ht3 hv3))
        clear hl3 ht3 hv3
        obtain ⟨ok, hok⟩ : ∃ ok, (s.sofar me (m : Int) (r : Int) fs k).n.sendOk (m : Int) (r : Int) = ok := ⟨_, rfl⟩
        have HSO := Lib.hid hok
        clear hok
        go_wp2_with fail
        refine (Net.send_any HL3.out.1.n (m : Int) (r : Int) S).mono ?_
        rw [HSO.out]
        rintro e w4 ⟨rfl, G', hn, ht⟩
        have HS4 := Lib.hid (GoSt.net (s := s) (me := me) (a := (m : Int)) (b := (r : Int)) (fs := fs) (k := k) (w := w) (M := M) (A := some ⟨g5, o5, none⟩) (c := c5) (G := G5) ⟨M3, rfl, HL3.out.1, HL3.out.2.1, HL3.out.2.2, G', hn, ht⟩ (by
          rw [(sofar_step (s := s) (me := me) (a := (m : Int)) (b := (r : Int)) HF.out).1]
          unfold way
          rw [if_pos HR.out, HBY.out]))
        have HCN := Lib.hid (show cnt s (m : Int) (r : Int) fs (k + 1) = if ok = true then cnt s (m : Int) (r : Int) fs k + 1 else cnt s (m : Int) (r : Int) fs k from by
          rw [(sofar_step (s := s) (me := me) (a := (m : Int)) (b := (r : Int)) HF.out).2]
          unfold way
          rw [if_pos HR.out, HSO.out])
        clear hn ht
        cases ok
        · go_wp2_with fail
          go_roundw
          case rel => exact ⟨k + 1, hlt, by go_num, by rw [HCN.out]; simp, HS4.out⟩
          case measure => simp [intOf]; omega
        · have hcl : cnt s (m : Int) (r : Int) fs k ≤ 1000 := Nat.le_trans (cnt_le s _ _ fs k) (by omega)
          generalize cnt s (m : Int) (r : Int) fs k = cn at *
          go_wp2_with fail
          go_roundw
          case rel => exact ⟨k + 1, hlt, by go_num, by rw [HCN.out]; simp, HS4.out⟩
          case measure => simp [intOf]; omega
    · have hk2 : k = fs.length := by omega
      have hd : decide ((k : Int) < (fs.length : Int)) = false := by simp; omega
      have HS := Lib.hid hs
      have HK := Lib.hid hk2
      clear hs hk2
      go_wp2_with fail
      go_ret
      obtain ⟨M2, h1, h2, _⟩ := HS.out
      rw [← HK.out]
      unfold Lay at h1
      refine ⟨rfl, _, ⟨M2, rfl, ?_⟩, h2⟩
      exact (Sep.perm h1 (List.perm_append_singleton _ _)).tail
end
end Go.Proofs.YtihhflajkohibaaDoor.Pipe
