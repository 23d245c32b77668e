/- Layer 10, the reference: what goes out of the second side. Conditions: the value's rows lie (RIs). -/
import Derived.Test.YtihhflajkohibaaGreatDoorRefH
namespace Go.Proofs.YtihhflajkohibaaGreatDoor.Pipe
set_option linter.unusedSimpArgs false
set_option linter.unusedVariables false
set_option maxRecDepth 100000
open Go.RowKit
open Go.Proofs.YtihhflajkohibaaGreatDoor
open Go.Proofs.YtihhflajkohibaaGreatDoor.Link (LE Fr zero11 Low ends)
open Go.Proofs.YtihhflajkohibaaGreatDoor.Net (NS RefNet)
section
variable {w : World} {M : RM} {s : PS} {K : Nat}
set_option maxRecDepth 100000 in
set_option maxHeartbeats 8000000 in
theorem ref_go_true (h : RIs w M s K) (hK : K ≤ 800) : Calls Tryz.prog 11 #[.agg (M.rc s).all, .int .i64 1] w (RefSaid w M (s.go true) (K + 9) (fun v => .tuple #[v, .int .i64 ((s.gone true).2 : Int)])) := by
  obtain ⟨fs, hfs⟩ : ∃ fs, (s.e true).goes = fs := ⟨_, rfl⟩
  have hfl : fs.length ≤ 9 := by rw [← hfs]; exact goes_le9 (h.ok true)
  have HFS := Lib.hid hfs
  have HP := Lib.hid (show s.go true = s.sofar true 1 0 fs fs.length ∧ (s.gone true).2 = cnt s 1 0 fs fs.length from by
    unfold PS.go PS.gone PS.sofar cnt; rw [hfs, List.take_length]; exact ⟨rfl, rfl⟩)
  rw [HP.out.1, HP.out.2]
  have HOK := Lib.hid (h.ok true)
  obtain ⟨C, hC⟩ : ∃ C, (M.rc s).all = C := ⟨_, rfl⟩
  have HCS := Lib.hid (show C.size = 27 from by rw [← hC]; exact (M.fits s).size)
  have HCO := Lib.hid (show C.all (·.oneCell') = true from by rw [← hC]; exact (M.fits s).all)
  obtain ⟨w2, hw2⟩ : ∃ w2, (w.alloc (.cells C 35)).alloc (.cells z27 35) = w2 := ⟨_, rfl⟩
  obtain ⟨hrw, hz⟩ := h.begin z27 35
  rw [hC, hw2] at hrw hz
  unfold z27 at hw2
  have HW := Lib.hid hw2
  have HRW := Lib.hid hrw
  have HZ := Lib.hid hz
  have HBX := Lib.hid (show w2.heap[w.heap.size]? = some (.cells C 35 (0, 0)) from by rw [← hC]; exact hrw.box)
  have HC := Lib.hid hC
  have HB2 := Lib.hid hrw.below
  rw [hC]
  have HRV := Lib.hid (show RV w M M s K (M.rc s) w2 from ⟨hrw.box, hz, hrw.is, hrw.below, fun k hk => .inl hk, h.lt⟩)
  obtain ⟨E0, hE0⟩ : ∃ E0, ends (s.e true) (M.A true) (M.c true) = E0 := ⟨_, rfl⟩
  have hend := ref_end (M.rc s) (M.fits s) 1 E0 (by rw [← hE0]; rfl) w2
  rw [hC] at hend
  have HEND := Lib.hid hend
  have HE0 := Lib.hid hE0
  have hw1 : IntKind.i64.wrap (1 - 1) = 0 := by decide
  clear hC hw2 hrw hz h hend hE0 hfs
  go_enter Tryz.func11, Tryz.ntmps11
  go_upto_region 1 with fail
  rw [HW.out]
  go_wp2_with (refine wpList_load_row rfl 35 _ rfl w.heap.size rfl 35 C (0, 0) _ HBX.out Tryz.underlying35 rfl (by rw [HCS.out]; exact infoP) ?_)
  refine (HEND.out).mono ?_
  rintro e w3 ⟨rfl, hb3⟩
  have hrv3 := HRV.out.after hb3
  have hout := Link.ref_out (hrv3.is.low true) HOK.out
  rw [HE0.out, HFS.out] at hout
  have HOUT := Lib.hid hout
  have HRV3 := Lib.hid hrv3
  clear hb3 hrv3 hout
  go_wp2_with fail
  refine (HOUT.out).mono ?_
  rintro e w4 ⟨B5, d5, G5, rfl, hv5, hG5, hb4⟩
  obtain ⟨E1, hE1⟩ : ∃ E1, ends (s.e true).gone (M.A true) (M.c true) = E1 := ⟨_, rfl⟩
  have HES := Lib.hid (show E1.size = 11 from by rw [← hE1]; rfl)
  have HEO := Lib.hid (show E1.all (·.oneCell') = true from by rw [← hE1]; simp [ends, Value.oneCell'])
  rw [hE1]
  have HG5 := Lib.hid (show ∀ j, j ∈ G5 → w.heap.size + 2 ≤ j from fun j hj => Nat.le_trans HRV3.out.lt (hG5 j hj))
  have HRV4 := Lib.hid (HRV3.out.after hb4)
  have HV4 := Lib.hid hv5
  have HE1 := Lib.hid hE1
  clear hv5 hG5 hb4 hE1
  go_wp2_with (first | (refine wpList_load_row rfl 35 _ rfl w.heap.size rfl 35 C (0, 0) _ HBX5.out Tryz.underlying35 rfl (by rw [HCS.out]; exact infoP) ?_) | (refine wpList_load_row rfl 30 _ rfl w4.heap.size rfl 30 E1 (0, 0) _ HQ5.out Tryz.underlying30 rfl (by rw [HES.out]; exact infoE) ?_) | (refine wpList_store_all rfl 30 _ _ rfl w4.heap.size zero11 E1 30 rfl rfl (heap_alloc_new w4 _) (by rw [HES.out]; rfl) (by rw [HES.out]; exact infoE) HEO.out ?_; intro w5 hq5 hk5; have hb5 : Below w4.heap.size w4 w5 := ((Below.refl _ _).alloc (Nat.le_refl _) _).trans (hk5.below (by simp) (by simp)); have HRV5 := Lib.hid (HRV4.out.after hb5); have HV5 := Lib.hid (HV4.out.after hb5); have HQ5 := Lib.hid hq5; have HBX5 := Lib.hid (show w5.heap[w.heap.size]? = some (.cells C 35 (0, 0)) from by rw [← HC.out]; exact HRV5.out.box); clear hq5 hk5 hb5))
  obtain ⟨R, hR⟩ : ∃ R, ((M.setE true (M.A true) (M.c true) (M.L true)).rc { s with e := up s.e true (s.e true).gone }).all = R := ⟨_, rfl⟩
  have hfits := ((M.setE true (M.A true) (M.c true) (M.L true)).fits { s with e := up s.e true (s.e true).gone })
  have HRS := Lib.hid (show R.size = 27 from by rw [← hR]; exact hfits.size)
  have HRO := Lib.hid (show R.all (·.oneCell') = true from by rw [← hR]; exact hfits.all)
  have hwith := ref_with (M.rc s) (M.fits s) 1 E1.toList (by simpa using HES.out) (fun v hv => (Array.all_eq_true_iff_forall_mem.1 HEO.out) v (by simpa using hv)) R (by rw [← hR, ← HE1.out]; exact congrArg RC.all (M.setE_rc s true (M.A true) (M.c true) (M.L true) (s.e true).gone)) w5
  have hxe : E1.toList.toArray = E1 := by simp
  rw [HC.out, hxe] at hwith
  have HWITH := Lib.hid hwith
  have HRR := Lib.hid hR
  clear hR hfits hwith hxe
  refine (HWITH.out).mono ?_
  rintro e w6 ⟨rfl, hb6⟩
  have HRV6 := Lib.hid ((HRV5.out.after hb6).setE true (L := M.L true) (((HRV5.out.is.low true).after hb6).same (y := (s.e true).gone) rfl) HOK.out.gone (fun k hk => Nat.lt_of_lt_of_le (HRV5.out.is.lt k (RM.mem_L hk)) hb6.size) (fun k hk => .inl hk))
  have HV6 := Lib.hid (HV5.out.after hb6)
  have HBX6 := Lib.hid ((hb6.block _ (lt_of_block HBX5.out)).trans HBX5.out)
  clear hb6
  go_wp2_with (refine wpList_store_all rfl 35 _ _ rfl w.heap.size C R 35 rfl rfl HBX6.out (by rw [HCS.out, HRS.out]) (by rw [HRS.out]; exact infoP) HRO.out ?_; intro w7 hq7 hk7; have HGO : Hid (GoRel w M s true 1 0 K fs G5 B5 d5 0 w7) := Lib.hid ⟨M.setE true (M.A true) (M.c true) (M.L true), HRV6.out.put (by unfold RBox; rw [show (s.sofar true 1 0 fs 0) = { s with e := up s.e true (s.e true).gone } from rfl, HRR.out]; exact hq7) hk7, HV6.out.kept hk7 (fun j hj => by have := HG5.out j hj; simp; omega)⟩; clear hq7 hk7)
  change Code.wp _ _ _ _ _
  go_loopw [8, 9, 10] (fun n i x10 wr => ∃ k : Nat, k ≤ fs.length ∧ i = .int .i64 (k : Int) ∧ n = .int .i64 ((cnt s 1 0 fs k : Nat) : Int) ∧ GoRel w M s true 1 0 K fs G5 B5 d5 k wr ∧ ∀ g, x10 = .pointer (some ⟨g, 0, none⟩) → g < wr.heap.size) (fun _ i _ _ => fs.length - (intOf i).toNat)
  case atStart => exact ⟨0, Nat.zero_le _, rfl, rfl, HGO.out, start_ptr rfl⟩
  case round =>
    obtain ⟨k, hk, rfl, rfl, hs, hx10⟩ := hrel
    have HX10 := Lib.hid hx10
    clear hx10
    by_cases hlt : k < fs.length
    · have hd : decide ((k : Int) < (fs.length : Int)) = true := by simp; omega
      have k0 : (0 : Int) ≤ (k : Int) := by omega
      have k1 : (k : Int) < (fs.length : Int) := by omega
      obtain ⟨f, hf⟩ : ∃ f, fs[k]? = some f := ⟨_, List.getElem?_eq_getElem hlt⟩
      have HS := Lib.hid hs
      have HF := Lib.hid hf
      obtain ⟨M1, hrv1, hv1⟩ := id hs
      have hvf := Link.vec_frame hv1
      rcases hvf with e0 | ⟨g5, o5, hA5, _, hg5, hfr⟩
      · rw [e0] at hf; cases hf
      subst hA5
      have HFR := Lib.hid (And.intro hg5 (hfr k f hf))
      have HRV1 := Lib.hid hrv1
      have HV1 := Lib.hid hv1
      obtain ⟨z0, z1, z2, z3, z4⟩ := hfr k f hf
      clear hs hf hfr hrv1 hv1 hk hg5
      obtain ⟨rt, hrt⟩ : ∃ rt, f.right = rt := ⟨_, rfl⟩
      have HRT := Lib.hid hrt
      clear hrt
      go_wp2_with fail
      refine (Link.refRight_is f rt HRT.out _).mono ?_
      rintro e w8 ⟨rfl, hb8⟩
      have HB8 := Lib.hid hb8
      clear z0 z1 z2 z3 z4 hb8
      cases rt
      · have HST := Lib.hid (show (s.sofar true 1 0 fs (k + 1)).n = (s.sofar true 1 0 fs k).n ∧ cnt s 1 0 fs (k + 1) = cnt s 1 0 fs k from by
          obtain ⟨e1, e2⟩ := sofar_step (s := s) (me := true) (a := 1) (b := 0) HF.out
          rw [e1, e2]
          unfold way
          rw [if_neg (by simp [HRT.out])]
          exact ⟨rfl, rfl⟩)
        go_wp2_with fail
        go_roundw
        case rel => exact ⟨k + 1, hlt, by go_num, by rw [HST.out.2], HS.out.same HB8.out HST.out.1, fun g e => Nat.lt_of_lt_of_le (HX10.out g e) HB8.out.size⟩
        case measure => simp [intOf]; omega
      · obtain ⟨S, hS⟩ : ∃ S, bytes f = S := ⟨_, rfl⟩
        have HBY := Lib.hid hS
        have HFT := Lib.hid (show Frame.Fits f from goes_fits HOK.out (by rw [HFS.out]; exact List.mem_of_getElem? HF.out))
        obtain ⟨ok, hok⟩ : ∃ ok, (s.sofar true 1 0 fs k).n.sendOk 1 0 = ok := ⟨_, rfl⟩
        obtain ⟨n', hn'⟩ : ∃ n', (s.sofar true 1 0 fs k).n.send 1 0 S = n' := ⟨_, rfl⟩
        have hrv8 := HRV1.out.after HB8.out
        have HRV8 := Lib.hid hrv8
        obtain ⟨N0, hN0⟩ : ∃ N0, (M1.net (s.sofar true 1 0 fs k).n).toArray = N0 := ⟨_, rfl⟩
        have HBXN := Lib.hid (show w8.rangeAt w.heap.size 24 (M1.net (s.sofar true 1 0 fs k).n) from hrv8.box.n (M1.fits _))
        have HN0 := Lib.hid hN0
        have HSND := Lib.hid (show ∀ v, Below w8.heap.size w8 v → Calls Tryz.prog 43 #[.agg N0, .int .i64 1, .int .i64 0, .string S] v fun e v' => ∃ N1, e = .returned (.tuple #[.agg N1, .bool ok]) ∧ Below v.heap.size v v' ∧ N1.size = 3 ∧ N1.all (·.oneCell') = true ∧ ∃ G' W' c' ws', N1 = ((M1.setN G' W' c' ws').net n').toArray ∧ RefNet v' G' (.agg N1) n' W' c' ws' ∧ ws'.length ≤ K + (k + 1) ∧ (∀ j, j ∈ G' → j ∈ M1.G ∨ v.heap.size ≤ j) from fun v hv => by
          have hnet := (HRV8.out.is.after hv).net
          have hl8 := HRV8.out.is.len
          rw [hN0] at hnet
          have := Net.ref_send hnet 1 0 S (by omega)
          rw [hok, hn'] at this
          refine this.mono ?_
          rintro e v' ⟨x', W', c', ws', G', rfl, h1, h2, h3, h4⟩
          have hv' := h1.v
          subst hv'
          exact ⟨_, rfl, h4, rfl, by simp [Value.oneCell'], G', W', c', ws', rfl, h1, by omega, h3⟩)
        have HSTN := Lib.hid (show (s.sofar true 1 0 fs (k + 1)).n = n' ∧ cnt s 1 0 fs (k + 1) = (if ok = true then cnt s 1 0 fs k + 1 else cnt s 1 0 fs k) from by
          obtain ⟨e1, e2⟩ := sofar_step (s := s) (me := true) (a := 1) (b := 0) HF.out
          rw [e1, e2]
          unfold way
          rw [if_pos HRT.out, hS, ← hn', ← hok]
          exact ⟨rfl, rfl⟩)
        have HLT1 := Lib.hid (show ∀ j, j ∈ M1.G → j < w8.heap.size from fun j hj => HRV8.out.is.lt j (RM.mem_G hj))
        clear hS hok hn' hN0 hrv8
        go_wp2_with fail
        refine' wp_flow [only 0 (.pointer (some ⟨w.heap.size, 24, none⟩)), only 1 (.agg N0), only 2 _, only 3 _, only 4 _, only 5 _, only 6 _, only 7 _, only 8 (.agg #[.int .i64 f.kind, .int .i64 f.epoch, .int .u64 f.seq, .int .u64 f.ack, .string f.body]), only 9 (.string S), (fun us v => ∃ N1, us 10 = .tuple #[.agg N1, .bool ok] ∧ NetJ M1 w8.heap.size (w.heap.size + 2) (K + (k + 1)) n' N1 (us 14) v), (fun us v => ∃ N1, us 11 = .tuple #[.agg N1, .bool ok] ∧ NetJ M1 w8.heap.size (w.heap.size + 2) (K + (k + 1)) n' N1 (us 14) v), (fun us v => ∃ N1, us 12 = .agg N1 ∧ NetJ M1 w8.heap.size (w.heap.size + 2) (K + (k + 1)) n' N1 (us 14) v), only 13 (.bool ok), own 14 (fun y v => ∃ g, y = .pointer (some ⟨g, 0, none⟩) ∧ w8.heap.size ≤ g ∧ v.heap[g]? = some (.cells zero3 33 (0, 0))), (fun us v => ∃ N1 g, us 12 = .agg N1 ∧ us 14 = .pointer (some ⟨g, 0, none⟩) ∧ w8.heap.size ≤ g ∧ v.heap[g]? = some (.cells N1 33 (0, 0)) ∧ NetJ M1 w8.heap.size (w.heap.size + 2) (K + (k + 1)) n' N1 (us 14) v), only 16 _, (fun us v => ∀ g, us 14 = .pointer (some ⟨g, 0, none⟩) → g < v.heap.size)] (fun v => Below w8.heap.size w8 v) [[], [0], [], [], [3], [], [], [5, 6], [7], [8], [1, 2, 4, 9, 17], [10], [11], [11], [], [12, 14], [13]] [[], [], [], [], [], [], [], [], [], [], [], [10], [], [], [], [12, 14, 17], []] [[], [], [], [], [], [], [], [], [], [], [], [], [], [], [], [], []] [[14, 17], [14, 17], [14, 17], [14, 17], [14, 17], [14, 17], [14, 17], [14, 17], [14, 17], [14, 17], [14, 17], [14, 17], [11, 14, 17], [11, 12, 14, 15, 17], [10, 11, 12, 17], [11], [11, 15]] [10, 11, 12, 14, 15, 17] [0, 1, 0, 0, 8, 0, 0, 96, 224, 480, 1023, 2047, 4095, 4095, 0, 24575, 65535] _ (fun us => ?hfr) (by kernel_rfl) (by kernel_rfl) (by kernel_rfl) ⟨only_still _, only_still _, only_still _, only_still _, only_still _, only_still _, only_still _, only_still _, only_still _, only_still _, trivial, trivial, trivial, only_still _, trivial, trivial, only_still _, trivial, trivial⟩ (below_drewN (Below.refl _ _) 1) (by simp) ((fun g e => Nat.lt_of_lt_of_le (HX10.out g e) HB8.out.size)) ?hst ?hla
        case hfr => (simp only [List.cons_append, List.nil_append, putAll, Act.put, List.setIfInBounds_toArray, List.set_cons_zero, List.set_cons_succ, Nat.reduceAdd]; rfl)
        case hst =>
          refine ⟨?_, ?_, ?_, ?_, ?_, ?_, ?_, ?_, ?_, ?_, ?_, ?_, ?_, ?_, ?_, ?_, ?_, trivial⟩
          · intro us v hR hn ho K hK
            clear ho
            have hfr := HFR.out.2.keep ((hR.block g5 (Nat.lt_of_lt_of_le HFR.out.1 HB8.out.size)).trans (HB8.out.block g5 HFR.out.1)); have z0 := hfr.c0; have z1 := hfr.c1; have z2 := hfr.c2; have z3 := hfr.c3; have z4 := hfr.c4
            rw [if_pos (by rfl)]
            go_simp
            refine hK _ _ _ (by simp only [Act.put, List.setIfInBounds_toArray, List.set_cons_zero, List.set_cons_succ, Nat.reduceAdd] <;> rfl) ?_ hR ⟨fun h => h, fun h => h, trivial⟩
            refine only_mk (v := v) ?_
            with_reducible rfl
          · intro us v hR hn ho K hK
            obtain ⟨n0, -⟩ := hn
            have n0 : us 0 = _ := n0
            clear ho
            have hfr := HFR.out.2.keep ((hR.block g5 (Nat.lt_of_lt_of_le HFR.out.1 HB8.out.size)).trans (HB8.out.block g5 HFR.out.1)); have z0 := hfr.c0; have z1 := hfr.c1; have z2 := hfr.c2; have z3 := hfr.c3; have z4 := hfr.c4
            have hra := (HRV8.out.after hR).box.n (M1.fits _)
            rw [if_pos (by rfl)]
            refine wp_load_mid 33 (.tmp 43) (by rfl) w.heap.size 24 n0 (M1.net (s.sofar true 1 0 fs k).n) _ hra Tryz.underlying33 rfl infoN ?_
            rw [HN0.out]
            refine hK _ _ _ (by simp only [Act.put, List.setIfInBounds_toArray, List.set_cons_zero, List.set_cons_succ, Nat.reduceAdd, n0] <;> rfl) ?_ hR ⟨fun h => h, fun h => h, trivial⟩
            exact only_mk (v := v) rfl
          · intro us v hR hn ho K hK
            clear ho
            have hfr := HFR.out.2.keep ((hR.block g5 (Nat.lt_of_lt_of_le HFR.out.1 HB8.out.size)).trans (HB8.out.block g5 HFR.out.1)); have z0 := hfr.c0; have z1 := hfr.c1; have z2 := hfr.c2; have z3 := hfr.c3; have z4 := hfr.c4
            rw [if_pos (by rfl)]
            go_simp
            refine hK _ _ _ (by simp only [Act.put, List.setIfInBounds_toArray, List.set_cons_zero, List.set_cons_succ, Nat.reduceAdd] <;> rfl) ?_ hR ⟨fun h => h, fun h => h, trivial⟩
            refine only_mk (v := v) ?_
            with_reducible rfl
          · intro us v hR hn ho K hK
            clear ho
            have hfr := HFR.out.2.keep ((hR.block g5 (Nat.lt_of_lt_of_le HFR.out.1 HB8.out.size)).trans (HB8.out.block g5 HFR.out.1)); have z0 := hfr.c0; have z1 := hfr.c1; have z2 := hfr.c2; have z3 := hfr.c3; have z4 := hfr.c4
            rw [if_pos (by rfl)]
            go_simp
            refine hK _ _ _ (by simp only [Act.put, List.setIfInBounds_toArray, List.set_cons_zero, List.set_cons_succ, Nat.reduceAdd] <;> rfl) ?_ hR ⟨fun h => h, fun h => h, trivial⟩
            refine only_mk (v := v) ?_
            with_reducible rfl
          · intro us v hR hn ho K hK
            obtain ⟨n3, -⟩ := hn
            have n3 : us 3 = _ := n3
            clear ho
            have hfr := HFR.out.2.keep ((hR.block g5 (Nat.lt_of_lt_of_le HFR.out.1 HB8.out.size)).trans (HB8.out.block g5 HFR.out.1)); have z0 := hfr.c0; have z1 := hfr.c1; have z2 := hfr.c2; have z3 := hfr.c3; have z4 := hfr.c4
            rw [if_pos (by rfl)]
            go_simp
            refine hK _ _ _ (by simp only [Act.put, List.setIfInBounds_toArray, List.set_cons_zero, List.set_cons_succ, Nat.reduceAdd, n3] <;> rfl) ?_ hR ⟨fun h => h, fun h => h, trivial⟩
            refine only_mk (v := v) ?_
            with_reducible rfl
          · intro us v hR hn ho K hK
            clear ho
            have hfr := HFR.out.2.keep ((hR.block g5 (Nat.lt_of_lt_of_le HFR.out.1 HB8.out.size)).trans (HB8.out.block g5 HFR.out.1)); have z0 := hfr.c0; have z1 := hfr.c1; have z2 := hfr.c2; have z3 := hfr.c3; have z4 := hfr.c4
            rw [if_pos (by rfl)]
            go_simp
            refine hK _ _ _ (by simp only [Act.put, List.setIfInBounds_toArray, List.set_cons_zero, List.set_cons_succ, Nat.reduceAdd] <;> rfl) ?_ hR ⟨fun h => h, fun h => h, trivial⟩
            refine only_mk (v := v) ?_
            with_reducible rfl
          · intro us v hR hn ho K hK
            clear ho
            have hfr := HFR.out.2.keep ((hR.block g5 (Nat.lt_of_lt_of_le HFR.out.1 HB8.out.size)).trans (HB8.out.block g5 HFR.out.1)); have z0 := hfr.c0; have z1 := hfr.c1; have z2 := hfr.c2; have z3 := hfr.c3; have z4 := hfr.c4
            rw [if_pos (by rfl)]
            go_simp
            refine hK _ _ _ (by simp only [Act.put, List.setIfInBounds_toArray, List.set_cons_zero, List.set_cons_succ, Nat.reduceAdd] <;> rfl) ?_ hR ⟨fun h => h, fun h => h, trivial⟩
            refine only_mk (v := v) ?_
            with_reducible rfl
          · intro us v hR hn ho K hK
            obtain ⟨n5, n6, -⟩ := hn
            have n5 : us 5 = _ := n5
            have n6 : us 6 = _ := n6
            clear ho
            have hfr := HFR.out.2.keep ((hR.block g5 (Nat.lt_of_lt_of_le HFR.out.1 HB8.out.size)).trans (HB8.out.block g5 HFR.out.1)); have z0 := hfr.c0; have z1 := hfr.c1; have z2 := hfr.c2; have z3 := hfr.c3; have z4 := hfr.c4
            rw [if_pos (by rfl)]
            go_simp
            refine hK _ _ _ (by simp only [Act.put, List.setIfInBounds_toArray, List.set_cons_zero, List.set_cons_succ, Nat.reduceAdd, n5, n6] <;> rfl) ?_ hR ⟨fun h => h, fun h => h, trivial⟩
            refine only_mk (v := v) ?_
            with_reducible rfl
          · intro us v hR hn ho K hK
            obtain ⟨n7, -⟩ := hn
            have n7 : us 7 = _ := n7
            clear ho
            have hfr := HFR.out.2.keep ((hR.block g5 (Nat.lt_of_lt_of_le HFR.out.1 HB8.out.size)).trans (HB8.out.block g5 HFR.out.1)); have z0 := hfr.c0; have z1 := hfr.c1; have z2 := hfr.c2; have z3 := hfr.c3; have z4 := hfr.c4
            rw [if_pos (by rfl)]
            go_simp
            refine hK _ _ _ (by simp only [Act.put, List.setIfInBounds_toArray, List.set_cons_zero, List.set_cons_succ, Nat.reduceAdd, n7] <;> rfl) ?_ hR ⟨fun h => h, fun h => h, trivial⟩
            refine only_mk (v := v) ?_
            with_reducible rfl
          · intro us v hR hn ho K hK
            obtain ⟨n8, -⟩ := hn
            have n8 : us 8 = _ := n8
            clear ho
            have hfr := HFR.out.2.keep ((hR.block g5 (Nat.lt_of_lt_of_le HFR.out.1 HB8.out.size)).trans (HB8.out.block g5 HFR.out.1)); have z0 := hfr.c0; have z1 := hfr.c1; have z2 := hfr.c2; have z3 := hfr.c3; have z4 := hfr.c4
            rw [if_pos (by rfl)]
            clear hfr z0 z1 z2 z3 z4
            go_simp
            refine (Frame.refPut_is f S HRT.out HFT.out HBY.out.symm v).mono ?_
            rintro e v' ⟨rfl, hb'⟩
            dsimp only
            refine hK _ _ _ (by simp only [Act.put, List.setIfInBounds_toArray, List.set_cons_zero, List.set_cons_succ, Nat.reduceAdd, n8] <;> rfl) ?_ (hR.trans (hb'.mono hR.size)) ⟨fun ⟨g, h1, h0, h2⟩ => ⟨g, h1, h0, (hb'.block _ (lt_of_block h2)).trans h2⟩, fun h g e => Nat.lt_of_lt_of_le (h g e) hb'.size, trivial⟩
            exact only_mk (v := v') rfl
          · intro us v hR hn ho K hK
            obtain ⟨n1, n2, n4, n9, ns, -⟩ := hn
            have n1 : us 1 = _ := n1
            have n2 : us 2 = _ := n2
            have n4 : us 4 = _ := n4
            have n9 : us 9 = _ := n9
            clear ho
            have hfr := HFR.out.2.keep ((hR.block g5 (Nat.lt_of_lt_of_le HFR.out.1 HB8.out.size)).trans (HB8.out.block g5 HFR.out.1)); have z0 := hfr.c0; have z1 := hfr.c1; have z2 := hfr.c2; have z3 := hfr.c3; have z4 := hfr.c4
            rw [if_pos (by rfl)]
            clear hfr z0 z1 z2 z3 z4
            go_simp
            refine (HSND.out v hR).mono ?_
            rintro e v' ⟨N1, rfl, hb', q1, q2, G', W', c', ws', q3, q4, q5, q6⟩
            dsimp only
            exact hK _ _ _ (by simp only [Act.put, List.setIfInBounds_toArray, List.set_cons_zero, List.set_cons_succ, Nat.reduceAdd, n1, n2, n4, n9] <;> rfl) ⟨N1, rfl, q1, q2, G', W', c', ws', q3, q4, q5, (fun j hj => (q6 j hj).imp id (fun h => Nat.le_trans HRV8.out.lt (Nat.le_trans hR.size h))), (fun g e hd hm => by have h9 := ns g e; exact (q6 g hm).elim (fun h8 => by have := HLT1.out g h8; omega) (fun h8 => by omega))⟩ (hR.trans (hb'.mono hR.size)) ⟨fun ⟨g, h1, h0, h2⟩ => ⟨g, h1, h0, (hb'.block _ (lt_of_block h2)).trans h2⟩, fun h g e => Nat.lt_of_lt_of_le (h g e) hb'.size, trivial⟩
          · intro us v hR hn ho K hK
            obtain ⟨n10, -⟩ := hn
            clear ho
            have hfr := HFR.out.2.keep ((hR.block g5 (Nat.lt_of_lt_of_le HFR.out.1 HB8.out.size)).trans (HB8.out.block g5 HFR.out.1)); have z0 := hfr.c0; have z1 := hfr.c1; have z2 := hfr.c2; have z3 := hfr.c3; have z4 := hfr.c4
            obtain ⟨N1, e10, j10⟩ := n10
            rw [if_pos (by rfl)]
            go_simp
            exact hK _ _ _ (by simp only [Act.put, List.setIfInBounds_toArray, List.set_cons_zero, List.set_cons_succ, Nat.reduceAdd, e10] <;> rfl) ⟨N1, rfl, j10⟩ hR ⟨fun h => h, fun h => h, trivial⟩
          · intro us v hR hn ho K hK
            obtain ⟨n11, -⟩ := hn
            clear ho
            have hfr := HFR.out.2.keep ((hR.block g5 (Nat.lt_of_lt_of_le HFR.out.1 HB8.out.size)).trans (HB8.out.block g5 HFR.out.1)); have z0 := hfr.c0; have z1 := hfr.c1; have z2 := hfr.c2; have z3 := hfr.c3; have z4 := hfr.c4
            obtain ⟨N1, e11, j11⟩ := n11
            rw [if_pos (by rfl)]
            go_simp
            exact hK _ _ _ (by simp only [Act.put, List.setIfInBounds_toArray, List.set_cons_zero, List.set_cons_succ, Nat.reduceAdd, e11] <;> rfl) ⟨N1, rfl, j11⟩ hR ⟨fun h => h, fun h => h, fun h => h, trivial⟩
          · intro us v hR hn ho K hK
            obtain ⟨n11, -⟩ := hn
            clear ho
            have hfr := HFR.out.2.keep ((hR.block g5 (Nat.lt_of_lt_of_le HFR.out.1 HB8.out.size)).trans (HB8.out.block g5 HFR.out.1)); have z0 := hfr.c0; have z1 := hfr.c1; have z2 := hfr.c2; have z3 := hfr.c3; have z4 := hfr.c4
            obtain ⟨N1, e11, j11⟩ := n11
            rw [if_pos (by rfl)]
            go_simp
            exact hK _ _ _ (by simp only [Act.put, List.setIfInBounds_toArray, List.set_cons_zero, List.set_cons_succ, Nat.reduceAdd, e11] <;> rfl) (only_mk (v := v) rfl) hR ⟨fun h => h, fun h => h, fun h => h, fun h => h, fun h => h, trivial⟩
          · intro us v hR hn ho K hK
            clear ho
            have hfr := HFR.out.2.keep ((hR.block g5 (Nat.lt_of_lt_of_le HFR.out.1 HB8.out.size)).trans (HB8.out.block g5 HFR.out.1)); have z0 := hfr.c0; have z1 := hfr.c1; have z2 := hfr.c2; have z3 := hfr.c3; have z4 := hfr.c4
            rw [if_pos (by rfl)]
            go_simp
            have hb' : Below v.heap.size v (v.alloc (.cells zero3 33)) := (Below.refl _ _).alloc (Nat.le_refl _) _
            exact hK _ _ _ (by simp only [Act.put, List.setIfInBounds_toArray, List.set_cons_zero, List.set_cons_succ, Nat.reduceAdd] <;> rfl) ⟨v.heap.size, rfl, hR.size, heap_alloc_new v _⟩ (hR.alloc hR.size _) ⟨fun ⟨N1, h1, h2⟩ => ⟨N1, h1, h2.new _⟩, fun ⟨N1, h1, h2⟩ => ⟨N1, h1, h2.new _⟩, fun ⟨N1, h1, h2⟩ => ⟨N1, h1, h2.new _⟩, fun _ g e => by injection e with e; injection e with e; injection e with e; subst e; simp, trivial⟩
          · intro us v hR hn ho K hK
            obtain ⟨n12, n14, -⟩ := hn
            clear ho
            have hfr := HFR.out.2.keep ((hR.block g5 (Nat.lt_of_lt_of_le HFR.out.1 HB8.out.size)).trans (HB8.out.block g5 HFR.out.1)); have z0 := hfr.c0; have z1 := hfr.c1; have z2 := hfr.c2; have z3 := hfr.c3; have z4 := hfr.c4
            obtain ⟨N1, e12, j12⟩ := n12
            obtain ⟨g1, e14, hg1, hg2⟩ := n14
            rw [if_pos (by rfl)]
            refine wp_store_all 33 (.tmp 10) (.tmp 54) (by rfl) g1 _ _ _ e14 e12 hg2 (by rw [j12.1]; rfl) (by rw [j12.1]; exact infoN) j12.2.1 ?_
            intro v' hq hk
            exact hK undef _ _ (by simp only [Act.put, List.setIfInBounds_toArray, List.set_cons_zero, List.set_cons_succ, Nat.reduceAdd, e12, e14] <;> rfl) ⟨N1, g1, e12, e14, hg1, hq, j12.struck e14 hg1 hk⟩ (hR.trans (hk.below hR.size (by simp; exact hg1))) ⟨fun ⟨N1, h1, h2⟩ => ⟨N1, h1, h2.struck e14 hg1 hk⟩, trivial⟩
          · intro us v hR hn ho K hK
            obtain ⟨n13, -⟩ := hn
            have n13 : us 13 = _ := n13
            clear ho
            have hfr := HFR.out.2.keep ((hR.block g5 (Nat.lt_of_lt_of_le HFR.out.1 HB8.out.size)).trans (HB8.out.block g5 HFR.out.1)); have z0 := hfr.c0; have z1 := hfr.c1; have z2 := hfr.c2; have z3 := hfr.c3; have z4 := hfr.c4
            rw [if_pos (by rfl)]
            go_simp
            refine hK _ _ _ (by simp only [Act.put, List.setIfInBounds_toArray, List.set_cons_zero, List.set_cons_succ, Nat.reduceAdd, n13] <;> rfl) ?_ hR ⟨fun h => h, fun h => h, trivial⟩
            refine only_mk (v := v) ?_
            with_reducible rfl
        case hla =>
          intro us v hR hl
          obtain ⟨n0, n1, n2, n3, n4, n5, n6, n7, n8, n9, n11, n13, n15, n16, -⟩ := need_last hl [0, 1, 2, 3, 4, 5, 6, 7, 8, 9, 11, 13, 15, 16] (by kernel_rfl)
          have n0 : us 0 = _ := n0
          have n1 : us 1 = _ := n1
          have n2 : us 2 = _ := n2
          have n3 : us 3 = _ := n3
          have n4 : us 4 = _ := n4
          have n5 : us 5 = _ := n5
          have n6 : us 6 = _ := n6
          have n7 : us 7 = _ := n7
          have n8 : us 8 = _ := n8
          have n9 : us 9 = _ := n9
          have n13 : us 13 = _ := n13
          have n16 : us 16 = _ := n16
          have hfr := HFR.out.2.keep ((hR.block g5 (Nat.lt_of_lt_of_le HFR.out.1 HB8.out.size)).trans (HB8.out.block g5 HFR.out.1)); have z0 := hfr.c0; have z1 := hfr.c1; have z2 := hfr.c2; have z3 := hfr.c3; have z4 := hfr.c4
          simp only [n0, n1, n2, n3, n4, n5, n6, n7, n8, n9, n13, n16]
          clear hl n0 n1 n2 n3 n4 n5 n6 n7 n8 n9 n13 n16
          obtain ⟨N1, g1, e12, e14, hg1, hq1, hj1⟩ := n15
          obtain ⟨hN3, hNO, G', W', c', ws', hN1, hnr, hwl, hGn, _⟩ := hj1
          simp only [e12, e14]
          have hrv9 := HRV8.out.after hR
          have HRV9 := Lib.hid (hrv9.setN hnr (J := K + (k + 1)) hwl hGn)
          have HBOX9 := Lib.hid hrv9.box
          have HV9 := Lib.hid ((HV1.out.after HB8.out).after hR)
          have HQ1 := Lib.hid hq1
          have HNS := Lib.hid hN3
          have HNO := Lib.hid hNO
          have HN1 := Lib.hid hN1
          have HS9 := Lib.hid (hrv9.box.setN (M1.fits _) (x := N1.toList) (by simpa using hN3))
          have HCN := Lib.hid (show cnt s 1 0 fs k ≤ 1000 from Nat.le_trans (cnt_le s _ _ fs k) (by omega))
          clear hN3 hNO hN1 hnr hwl hGn hq1 hrv9 e12 e14 hR hfr z0 z1 z2 z3 z4 n13 n16
          cases ok
          · go_wp2_with (first | (refine wpList_load_row rfl 33 _ rfl g1 rfl 33 N1 (0, 0) _ HQ1.out Tryz.underlying33 rfl (by rw [HNS.out]; exact infoN) ?_) | (refine wpList_store_mid rfl 33 _ _ rfl w.heap.size 24 N1 rfl rfl (by have h := HS9.out.1; rw [Array.length_toList, HNS.out] at h; rw [HNS.out]; exact h) (by rw [HNS.out]; exact infoN) HNO.out ?_; have hbx6 := HS9.out.2.1; have hk6 := HS9.out.2.2; generalize World.setCells _ w.heap.size 24 N1.toList = w10 at hbx6 hk6 ⊢; have HGOK : Hid (GoRel w M s true 1 0 K fs G5 (some ⟨g5, o5, none⟩) d5 (k + 1) w10 ∧ ∀ g, Value.pointer (some ⟨g1, 0, none⟩) = .pointer (some ⟨g, 0, none⟩) → g < w10.heap.size) := Lib.hid (And.intro (by have e2 : s.sofar true 1 0 fs (k + 1) = { s.sofar true 1 0 fs k with n := n' } := (by have e := HSTN.out.1; unfold PS.sofar at e ⊢; simp only at e ⊢; rw [e]); unfold GoRel; rw [e2]; refine ⟨M1.setN G' W' c' ws', HRV9.out.put (by have e3 : ({ M1.rc (s.sofar true 1 0 fs k) with n := N1.toList } : RC) = RM.rc (M1.setN G' W' c' ws') { s.sofar true 1 0 fs k with n := n' } := (by rw [HN1.out]; rfl); rw [← e3]; exact hbx6) hk6, HV9.out.kept hk6 (fun j hj => by have := HG5.out j hj; simp; omega)⟩) (fun g e => by injection e with e; injection e with e; injection e with e; subst e; exact Nat.lt_of_lt_of_le (lt_of_block HQ1.out) hk6.size)); clear hbx6 hk6))
            go_roundw
            case rel => exact ⟨k + 1, hlt, by go_num, by rw [HSTN.out.2]; rfl, HGOK.out.1, HGOK.out.2⟩
            case measure => simp [intOf]; omega
          · generalize hcn : cnt s 1 0 fs k = cn at HCN HSTN ⊢
            have hcn' := HCN.out
            go_wp2_with (first | (refine wpList_load_row rfl 33 _ rfl g1 rfl 33 N1 (0, 0) _ HQ1.out Tryz.underlying33 rfl (by rw [HNS.out]; exact infoN) ?_) | (refine wpList_store_mid rfl 33 _ _ rfl w.heap.size 24 N1 rfl rfl (by have h := HS9.out.1; rw [Array.length_toList, HNS.out] at h; rw [HNS.out]; exact h) (by rw [HNS.out]; exact infoN) HNO.out ?_; have hbx6 := HS9.out.2.1; have hk6 := HS9.out.2.2; generalize World.setCells _ w.heap.size 24 N1.toList = w10 at hbx6 hk6 ⊢; have HGOK : Hid (GoRel w M s true 1 0 K fs G5 (some ⟨g5, o5, none⟩) d5 (k + 1) w10 ∧ ∀ g, Value.pointer (some ⟨g1, 0, none⟩) = .pointer (some ⟨g, 0, none⟩) → g < w10.heap.size) := Lib.hid (And.intro (by have e2 : s.sofar true 1 0 fs (k + 1) = { s.sofar true 1 0 fs k with n := n' } := (by have e := HSTN.out.1; unfold PS.sofar at e ⊢; simp only at e ⊢; rw [e]); unfold GoRel; rw [e2]; refine ⟨M1.setN G' W' c' ws', HRV9.out.put (by have e3 : ({ M1.rc (s.sofar true 1 0 fs k) with n := N1.toList } : RC) = RM.rc (M1.setN G' W' c' ws') { s.sofar true 1 0 fs k with n := n' } := (by rw [HN1.out]; rfl); rw [← e3]; exact hbx6) hk6, HV9.out.kept hk6 (fun j hj => by have := HG5.out j hj; simp; omega)⟩) (fun g e => by injection e with e; injection e with e; injection e with e; subst e; exact Nat.lt_of_lt_of_le (lt_of_block HQ1.out) hk6.size)); clear hbx6 hk6))
            go_roundw
            case rel => exact ⟨k + 1, hlt, by go_num, by rw [HSTN.out.2]; simp, HGOK.out.1, HGOK.out.2⟩
            case measure => simp [intOf]; omega
    · have hk2 : k = fs.length := by omega
      have hd : decide ((k : Int) < (fs.length : Int)) = false := by simp; omega
      obtain ⟨M2, hrv2, _⟩ := hs
      obtain ⟨R2, hR2⟩ : ∃ Q9, (M2.rc (s.sofar true 1 0 fs k)).all = Q9 := ⟨_, rfl⟩
      have HS2 := Lib.hid (show R2.size = 27 from by rw [← hR2]; exact (RM.fits _ _).size)
      have HO2 := Lib.hid (show R2.all (·.oneCell') = true from by rw [← hR2]; exact (RM.fits _ _).all)
      have HR2 := Lib.hid hR2
      have HB2' := Lib.hid (show wr.heap[w.heap.size]? = some (.cells R2 35 (0, 0)) from by rw [← hR2]; exact hrv2.box)
      have HZ2 := Lib.hid hrv2.res
      have HRV2 := Lib.hid hrv2
      have HKK := Lib.hid hk2
      clear hR2 hrv2 hk2
      go_wp2_with (first | (refine wpList_load_row rfl 35 _ rfl w.heap.size rfl 35 R2 (0, 0) _ HB2'.out Tryz.underlying35 rfl (by rw [HS2.out]; exact infoP) ?_) | (refine wpList_store_all rfl 35 _ _ rfl (w.heap.size + 1) z27 R2 35 rfl rfl HZ2.out (by rw [HS2.out]; rfl) (by rw [HS2.out]; exact infoP) HO2.out ?_; intro w9 hq9 hk9))
      refine ret_row2 Tryz.results11 (w.heap.size + 1) _ _ _ (.int .i64 ((cnt s 1 0 fs k : Nat) : Int)) rfl hq9 rfl Tryz.underlying35 rfl (by rw [HS2.out]; exact infoP) rfl ?_
      rw [← HKK.out]
      exact RV.said (f := fun v => .tuple #[v, .int .i64 ((cnt s 1 0 fs k : Nat) : Int)]) ⟨HRV2.out.box, HRV2.out.res, HRV2.out.is.more (by omega), HRV2.out.below, HRV2.out.new, HRV2.out.old⟩ HR2.out hk9
end
end Go.Proofs.YtihhflajkohibaaGreatDoor.Pipe
