/- Layer 10, the reference: what comes. Conditions: the value's rows lie (RIs); all that is on its way is short. -/
import Derived.Test.YtihhflajkohibaaGreatDoorRfMany
import Derived.Test.YtihhflajkohibaaGreatDoorFrameZ
namespace Go.Proofs.YtihhflajkohibaaGreatDoor.Frame
set_option linter.unusedSimpArgs false
set_option linter.unusedVariables false
set_option maxRecDepth 100000
open Go.RowKit
open Go.Proofs.YtihhflajkohibaaGreatDoor
open Go.Proofs.YtihhflajkohibaaGreatDoor.Link (Fr right_is right_any frBox bcell ret_bool empty_size)
theorem refGet_any (s : ByteArray) (w : World) (hm : s.size ≤ maxLen) : Calls Tryz.prog 51 #[.string s] w (Ans w s.data.toList) := by
  by_cases h1 : s.size < 27
  · exact ref_short h1
  by_cases h2 : s.data.toList.getD 0 0 = 78
  · by_cases h3 : s.data.toList.getD 1 0 = 1
    · exact ref_rest (by omega) hm h2 h3
    · exact ref_version (by omega) h2 h3
  · exact ref_magic (by omega) h2
theorem refGet_is (s : ByteArray) (f : Fr) (a : Nat) (n : Int) (w : World) (hm : s.size ≤ maxLen) (hf : f = get s.data.toList) (ha : a = (why s.data.toList).1) (hn : n = (why s.data.toList).2) :
    Calls Tryz.prog 51 #[.string s] w fun e w' => e = .returned (.tuple #[f.val, .int .i64 (a : Int), .int .i64 n]) ∧ Below w.heap.size w w' := by
  subst hf ha hn; exact refGet_any s w hm
end Go.Proofs.YtihhflajkohibaaGreatDoor.Frame
namespace Go.Proofs.YtihhflajkohibaaGreatDoor.Pipe
open Go.RowKit
open Go.Proofs.YtihhflajkohibaaGreatDoor
open Go.Proofs.YtihhflajkohibaaGreatDoor.Link (LE Fr zero11 Low ends)
open Go.Proofs.YtihhflajkohibaaGreatDoor.Net (NS RefNet)
/-- within a function of the reference: the argument's box (it may lag behind), the result's, and the rows of the value that is to be -/
structure RV (w : World) (M0 M : RM) (s : PS) (K : Nat) (r : RC) (v : World) : Prop where
  box : RBox v w.heap.size r
  res : v.heap[w.heap.size + 1]? = some (.cells z27 35 (0, 0))
  is : RIs v M s K
  below : Below w.heap.size w v
  new : ∀ k, k ∈ M.all → k ∈ M0.all ∨ w.heap.size + 2 ≤ k
  old : ∀ k, k ∈ M0.all → k < w.heap.size
section
variable {w v v' : World} {M0 M : RM} {s : PS} {K : Nat} {r : RC}
theorem RV.lt (h : RV w M0 M s K r v) : w.heap.size + 2 ≤ v.heap.size := by have := lt_of_block h.res; omega
theorem RV.after (h : RV w M0 M s K r v) (hb : Below v.heap.size v v') : RV w M0 M s K r v' :=
  ⟨(hb.block _ (lt_of_block h.box)).trans h.box, (hb.block _ (lt_of_block h.res)).trans h.res, h.is.after hb, h.below.trans (hb.mono h.below.size), h.new, h.old⟩
theorem RV.put (h : RV w M0 M s K r v) {r' : RC} (hq : RBox v' w.heap.size r') (hk : Kept [w.heap.size] v v') : RV w M0 M s K r' v' :=
  ⟨hq, (hk.block _ (lt_of_block h.res) (by simp)).trans h.res, h.is.kept hk (fun k hm hk0 => by
    have e : k = w.heap.size := by simpa using hk0
    rcases h.new k hm with h1 | h1
    · have := h.old k h1; omega
    · omega), h.below.trans (hk.below h.below.size (by simp)), h.new, h.old⟩
theorem RV.setN (h : RV w M0 M s K r v) {G : List Nat} {W : Option Addr} {d : Nat} {ws : List Net.Way} {x : Value} {n : NS} (hn : RefNet v G x n W d ws) {J : Nat} (hJ : ws.length ≤ J) (hG : ∀ k, k ∈ G → k ∈ M.G ∨ w.heap.size + 2 ≤ k) : RV w M0 (M.setN G W d ws) { s with n := n } J r v :=
  ⟨h.box, h.res, h.is.setN hn hJ, h.below, fun k hk => (RM.setN_all M G W d ws hk).elim (fun h1 => (hG k h1).elim (fun h2 => h.new k (RM.mem_G h2)) .inr) (h.new k), h.old⟩
theorem RV.setE (h : RV w M0 M s K r v) (me : Bool) {A : Option Addr} {c : Nat} {L : List Nat} {z : LE} (hl : Low v L z A c) (hz : z.Ok) (hL : ∀ k, k ∈ L → k < v.heap.size) (hn : ∀ k, k ∈ L → k ∈ M.L me ∨ w.heap.size + 2 ≤ k) : RV w M0 (M.setE me A c L) { s with e := up s.e me z } K r v :=
  ⟨h.box, h.res, h.is.setE me hl hz hL, h.below, fun k hk => (RM.setE_all M me A c L hk).elim (fun h1 => (hn k h1).elim (fun h2 => h.new k (RM.mem_L h2)) .inr) (h.new k), h.old⟩
/-- what a side was told is another row -/
def RM.setG (M : RM) (me : Bool) (a : Arr) : RM := { M with g := up M.g me a }
theorem RM.setG_all (M : RM) (me : Bool) (a : Arr) {k : Nat} (h : k ∈ (M.setG me a).all) : k ∈ a.F ∨ k ∈ M.all := by
  cases me
  · simp only [RM.all, RM.setG, List.mem_append, up] at h ⊢
    simp at h
    rcases h with h | h | h | h | h
    · exact .inr (.inl h)
    · exact .inr (.inr (.inl h))
    · exact .inl h
    · exact .inr (.inr (.inr (.inr (.inl h))))
    · exact .inr (.inr (.inr (.inr (.inr h))))
  · simp only [RM.all, RM.setG, List.mem_append, up] at h ⊢
    simp at h
    rcases h with h | h | h | h | h
    · exact .inr (.inl h)
    · exact .inr (.inr (.inl h))
    · exact .inr (.inr (.inr (.inl h)))
    · exact .inl h
    · exact .inr (.inr (.inr (.inr (.inr h))))
theorem RV.setG (h : RV w M0 M s K r v) (me : Bool) {a : Arr} {l : List ByteArray} (hv : Vec v a.F 1 a.A l.length a.c (l.map .string)) (hn : ∀ k, k ∈ a.F → w.heap.size + 2 ≤ k) : RV w M0 (M.setG me a) { s with g := up s.g me l } K r v := by
  refine ⟨h.box, h.res, ⟨h.is.low, h.is.ok, fun b => ?_, h.is.net, h.is.len, fun k hk => (RM.setG_all M me a hk).elim (fun h1 => hv.lt h1) (h.is.lt k)⟩, h.below, fun k hk => (RM.setG_all M me a hk).elim (fun h1 => .inr (hn k h1)) (h.new k), h.old⟩
  show Vec v (up M.g me a b).F 1 (up M.g me a b).A (up s.g me l b).length (up M.g me a b).c ((up s.g me l b).map .string)
  unfold up
  split
  · exact hv
  · exact h.is.got b
theorem RV.said (h : RV w M0 M s K (M.rc s) v) {R : Array Value} {f : Value → Value} (hR : (M.rc s).all = R) (hk : Kept [w.heap.size + 1] v v') : RefSaid w M0 s K f (.returned (f (.agg R))) v' :=
  RefSaid.mk' h.is hR h.below hk h.new h.old
theorem rc_set_false (M : RM) (s : PS) (a : Arr) (l : List ByteArray) : (M.rc s).all.setIfInBounds 22 (.slice a.A l.length a.c) = ((M.setG false a).rc { s with g := up s.g false l }).all := by simp [RC.all, RC.l, RM.rc, RM.end, ends, RM.setG, up, sl]; rfl
theorem rc_set_true (M : RM) (s : PS) (a : Arr) (l : List ByteArray) : (M.rc s).all.setIfInBounds 23 (.slice a.A l.length a.c) = ((M.setG true a).rc { s with g := up s.g true l }).all := by simp [RC.all, RC.l, RM.rc, RM.end, ends, RM.setG, up, sl]; rfl
theorem get_ack (L : List UInt8) : Link.u (Frame.get L).ack = (Frame.get L).ack := by
  unfold Frame.get
  split
  · have h := Frame.fits_parts L
    have h1 := h.a0
    have h2 := h.a1
    rw [Link.u_eq]; omega
  · rfl
/-- no text lies where a struct of numbers lies -/
theorem low_zero {v : World} {G : List Nat} {x : LE} {A : Option Addr} {c g : Nat} (h : Low v G x A c) (hg : v.heap[g]? = some (.cells zero11 30 (0, 0))) : x.bodies = [] ∨ g ∉ G := by
  by_cases hn : x.bodies = []
  · exact .inl hn
  · refine .inr fun hm => ?_
    have hpos : 0 < x.bodies.length := List.length_pos_iff.2 hn
    have h0 : (x.bodies.map Value.string)[0]? = some (.string x.bodies[0]) := by rw [List.getElem?_map, List.getElem?_eq_getElem hpos]; rfl
    obtain ⟨g', off, _, hG, _, hc⟩ := (h.some_ hn).at h0
    rw [hG] at hm
    simp at hm
    subst hm
    rw [cell_of_block hg] at hc
    have hb : off + 0 < zero11.size := (Array.getElem?_eq_some_iff.1 hc).1
    have h11 : zero11.size = 11 := rfl
    obtain ⟨o, ho⟩ : ∃ o, off + 0 = o := ⟨_, rfl⟩
    rw [ho] at hc hb
    have : o = 0 ∨ o = 1 ∨ o = 2 ∨ o = 3 ∨ o = 4 ∨ o = 5 ∨ o = 6 ∨ o = 7 ∨ o = 8 ∨ o = 9 ∨ o = 10 := by omega
    rcases this with rfl | rfl | rfl | rfl | rfl | rfl | rfl | rfl | rfl | rfl | rfl <;> simp [zero11] at hc
theorem low_struck {v w7 : World} {G : List Nat} {x : LE} {A : Option Addr} {c g : Nat} (h : Low v G x A c) (hg : v.heap[g]? = some (.cells zero11 30 (0, 0))) (hk : Kept [g] v w7) : Low w7 G x A c :=
  ⟨h.le, h.max, fun hn => (h.some_ hn).kept hk fun k hkm => by
    simp; rintro rfl
    rcases low_zero h hg with h1 | h1
    · exact hn h1
    · exact h1 hkm⟩
end
section
variable {w : World} {M : RM} {s : PS} {K : Nat}
set_option maxRecDepth 100000 in
set_option maxHeartbeats 4000000 in
theorem ref_come_no (h : RIs w M s K) (hK : K ≤ 900) (n : Int) (hn : isSide n = false) (k : Int) : Calls Tryz.prog 15 #[.agg (M.rc s).all, .int .i64 n, .int .i64 k] w (RefSaid w M s K (fun v => .tuple #[v, .string ⟨#[]⟩, .bool false])) := by
  have hlen := h.len
  have hfits := M.fits s
  obtain ⟨C, hC⟩ : ∃ C, (M.rc s).all = C := ⟨_, rfl⟩
  have HCS := Lib.hid (show C.size = 27 from by rw [← hC]; exact (M.fits s).size)
  have HCO := Lib.hid (show C.all (·.oneCell') = true from by rw [← hC]; exact (M.fits s).all)
  obtain ⟨w2, hw2⟩ : ∃ w2, (w.alloc (.cells C 35)).alloc (.cells z27 35) = w2 := ⟨_, rfl⟩
  obtain ⟨hrw, hz⟩ := h.begin z27 35
  rw [hC, hw2] at hrw hz
  unfold z27 at hw2
  have HW := Lib.hid hw2
  have HRW := Lib.hid hrw
  have HZ := Lib.hid hz
  have HBX := Lib.hid (show w2.heap[w.heap.size]? = some (.cells C 35 (0, 0)) from by rw [← hC]; exact hrw.box)
  have HC := Lib.hid hC
  have HB2 := Lib.hid hrw.below
  rw [hC]
  have HRV := Lib.hid (show RV w M M s K (M.rc s) w2 from ⟨hrw.box, hz, hrw.is, hrw.below, fun k hk => .inl hk, h.lt⟩)
  have hnn : ¬ (n = 0 ∨ n = 1) := fun h => by rcases h with rfl | rfl <;> simp [isSide] at hn
  have d0 : (n != 0) = true := by simp; exact fun h => hnn (.inl h)
  have d1 : (n != 1) = true := by simp; exact fun h => hnn (.inr h)
  obtain ⟨a, ha⟩ : ∃ a, IntKind.i64.wrap (1 - n) = a := ⟨_, rfl⟩
  obtain ⟨N0, hN0⟩ : ∃ N0, (M.net s.n).toArray = N0 := ⟨_, rfl⟩
  have hbxr := hrw.box.n hfits
  have hnet := hrw.is.net
  rw [hN0] at hnet
  have hcall := Net.ref_deliver hnet a n k (by omega)
  obtain ⟨S, hS⟩ : ∃ S, s.n.look a n k = S := ⟨_, rfl⟩
  obtain ⟨ok, hok⟩ : ∃ ok, s.n.isAt a n k = ok := ⟨_, rfl⟩
  rw [hS, hok] at hcall
  have HCALL := Lib.hid hcall
  have HN0 := Lib.hid hN0
  have HBXN := Lib.hid (show w2.rangeAt w.heap.size 24 (M.net s.n) from hbxr)
  clear hC hw2 hrw hz h hfits hbxr hnet hcall hN0 hlen hS hok hn hnn
  go_enter Tryz.func15, Tryz.ntmps15
  go_upto_region 1 with fail
  rw [HW.out]
  go_wp2_with (refine wpList_load_mid rfl 33 _ rfl w.heap.size 24 rfl (M.net s.n) _ HBXN.out Tryz.underlying33 rfl infoN ?_; rw [HN0.out])
  refine (HCALL.out).mono ?_
  rintro e w3 ⟨v', W', c', ws', G', rfl, hn3, _, _, hb3⟩
  obtain ⟨N1, hN1⟩ : ∃ N1 : Array Value, v' = .agg N1 ∧ N1.size = 3 ∧ N1.all (·.oneCell') = true := ⟨_, hn3.v, rfl, by simp [Value.oneCell']⟩
  obtain ⟨hv, hNS, hNO⟩ := hN1
  rw [hv]
  have HNS := Lib.hid hNS
  have HN1O := Lib.hid hNO
  have HRV0 := Lib.hid (HRV.out.after hb3)
  clear hn3 hb3 hv hNS hNO
  go_wp2_with (first | (refine wpList_load_row rfl 35 _ rfl w.heap.size rfl 35 C (0, 0) _ HBX5.out Tryz.underlying35 rfl (by rw [HCS.out]; exact infoP) ?_) | (refine wpList_store_all rfl 35 _ _ rfl (w.heap.size + 1) z27 C 35 rfl rfl HZ5.out (by rw [HCS.out]; rfl) (by rw [HCS.out]; exact infoP) HCO.out ?_; intro w9 hq9 hk9) | (refine wpList_store_all rfl 33 _ _ rfl w3.heap.size zero3 N1 33 rfl rfl (heap_alloc_new w3 _) (by rw [HNS.out]; rfl) (by rw [HNS.out]; exact infoN) HN1O.out ?_; intro w5 hq5 hk5; have hb5 : Below w3.heap.size w3 w5 := ((Below.refl _ _).alloc (Nat.le_refl _) _).trans (hk5.below (by simp) (by simp)); have HRV5 := Lib.hid (HRV0.out.after hb5); have HBX5 := Lib.hid (show w5.heap[w.heap.size]? = some (.cells C 35 (0, 0)) from by rw [← HC.out]; exact HRV5.out.box); have HZ5 := Lib.hid HRV5.out.res; clear hq5 hk5 hb5))
  refine ret_row3 Tryz.results15 (w.heap.size + 1) _ _ _ (.string ⟨#[]⟩) (.bool false) rfl hq9 rfl rfl Tryz.underlying35 rfl (by rw [HCS.out]; exact infoP) rfl ?_
  exact RV.said (f := fun v => .tuple #[v, .string ⟨#[]⟩, .bool false]) HRV5.out HC.out hk9
set_option maxRecDepth 100000 in
set_option maxHeartbeats 8000000 in
theorem ref_come_false (h : RIs w M s K) (hK : K ≤ 900) (hsh : Short s.n) (hg : (s.g false).length ≤ 1000000) (k : Int) : Calls Tryz.prog 15 #[.agg (M.rc s).all, .int .i64 0, .int .i64 k] w (RefSaid w M (s.come false k) (K + 1) (fun v => .tuple #[v, .string (s.comeS false k), .bool (s.comeB false k)])) := by
  obtain ⟨i0, hi0, hz0, hz1, hz2⟩ := info_parts Link.str_info
  have hlen := h.len
  have hfits := M.fits s
  obtain ⟨C, hC⟩ : ∃ C, (M.rc s).all = C := ⟨_, rfl⟩
  have HCS := Lib.hid (show C.size = 27 from by rw [← hC]; exact (M.fits s).size)
  have HCO := Lib.hid (show C.all (·.oneCell') = true from by rw [← hC]; exact (M.fits s).all)
  obtain ⟨w2, hw2⟩ : ∃ w2, (w.alloc (.cells C 35)).alloc (.cells z27 35) = w2 := ⟨_, rfl⟩
  obtain ⟨hrw, hz⟩ := h.begin z27 35
  rw [hC, hw2] at hrw hz
  unfold z27 at hw2
  have HW := Lib.hid hw2
  have HRW := Lib.hid hrw
  have HZ := Lib.hid hz
  have HBX := Lib.hid (show w2.heap[w.heap.size]? = some (.cells C 35 (0, 0)) from by rw [← hC]; exact hrw.box)
  have HC := Lib.hid hC
  have HB2 := Lib.hid hrw.below
  rw [hC]
  have HRV := Lib.hid (show RV w M M s K (M.rc s) w2 from ⟨hrw.box, hz, hrw.is, hrw.below, fun k hk => .inl hk, h.lt⟩)
  obtain ⟨S, hS⟩ : ∃ S, s.look false k = S := ⟨_, rfl⟩
  obtain ⟨ok, hok⟩ : ∃ ok, s.has false k = ok := ⟨_, rfl⟩
  obtain ⟨n', hn'⟩ : ∃ n', s.n.deliver 1 0 k = n' := ⟨_, rfl⟩
  have hlk : s.n.look 1 0 k = S ∧ s.n.isAt 1 0 k = ok := ⟨hS, hok⟩
  have HLO := Lib.hid (show s.lose false k = { s with n := n' } from by rw [← hn']; rfl)
  have HNO := Lib.hid (show ok = false → n' = s.n from fun e => by rw [← hn']; unfold NS.deliver; rw [if_neg (by rw [hlk.2, e]; decide)])
  have HSZ := Lib.hid (show S.size ≤ maxLen from by
    have : (s.look false k).size ≤ 100 := hsh.look _ _ _
    rw [hS] at this
    unfold maxLen; omega)
  have HDEF := Lib.hid (show s.frameB false k = (ok && decide ((Frame.why S.data.toList).2 = 0)) ∧ s.frame false k = Frame.get S.data.toList from by
    unfold PS.frameB PS.frame; rw [hS, hok]; exact ⟨rfl, rfl⟩)
  obtain ⟨N0, hN0⟩ : ∃ N0, (M.net s.n).toArray = N0 := ⟨_, rfl⟩
  have hbxr := hrw.box.n hfits
  have hnet := hrw.is.net
  rw [hN0] at hnet
  have hcall := Net.ref_deliver hnet 1 0 k (by omega)
  rw [hlk.1, hlk.2, hn'] at hcall
  have HCALL := Lib.hid hcall
  have HN0 := Lib.hid hN0
  have HBXN := Lib.hid (show w2.rangeAt w.heap.size 24 (M.net s.n) from hbxr)
  have HF := Lib.hid hfits
  have HLEN := Lib.hid hlen
  have HG := Lib.hid hg
  have hw1 : IntKind.i64.wrap (1 - 0) = 1 := by decide
  clear hC hw2 hrw hz h hfits hbxr hnet hcall hN0 hlen hS hok hlk hg hsh hn'
  go_enter Tryz.func15, Tryz.ntmps15
  go_upto_region 1 with fail
  rw [HW.out]
  go_wp2_with (refine wpList_load_mid rfl 33 _ rfl w.heap.size 24 rfl (M.net s.n) _ HBXN.out Tryz.underlying33 rfl infoN ?_; rw [HN0.out])
  refine (HCALL.out).mono ?_
  rintro e w3 ⟨v', W', c', ws', G', rfl, hn3, hl3, hG3, hb3⟩
  obtain ⟨N1, hN1⟩ : ∃ N1, ((M.setN G' W' c' ws').net n').toArray = N1 := ⟨_, rfl⟩
  have hv := hn3.v
  rw [show v' = .agg N1 from by rw [hv, ← hN1]; rfl] at hn3 ⊢
  have HNS := Lib.hid (show N1.size = 3 from by rw [← hN1]; rfl)
  have HN1O := Lib.hid (show N1.all (·.oneCell') = true from by rw [← hN1]; simp [RM.net, Value.oneCell'])
  have HN1 := Lib.hid hN1
  have HRV0 := Lib.hid (HRV.out.after hb3)
  have HRV3 := Lib.hid (HRV0.out.setN hn3 (J := K + 1) (by have := HLEN.out; omega) (fun j hj => (hG3 j hj).imp id fun h => Nat.le_trans HRV.out.lt h))
  clear hn3 hl3 hG3 hb3 hN1 hv
  cases ok
  · have HE := Lib.hid (show s.come false k = s ∧ s.comeS false k = ⟨#[]⟩ ∧ s.comeB false k = false from by
      have hfr : s.frameB false k = false := by rw [HDEF.out.1]; rfl
      unfold PS.come PS.comeS PS.comeB; rw [hfr, HLO.out, HNO.out rfl]; exact ⟨rfl, rfl, rfl⟩)
    go_wp2_with (first | (refine wpList_load_row rfl 35 _ rfl w.heap.size rfl 35 C (0, 0) _ HBX5.out Tryz.underlying35 rfl (by rw [HCS.out]; exact infoP) ?_) | (refine wpList_store_all rfl 35 _ _ rfl (w.heap.size + 1) z27 C 35 rfl rfl HZ5.out (by rw [HCS.out]; rfl) (by rw [HCS.out]; exact infoP) HCO.out ?_; intro w9 hq9 hk9) | (refine wpList_store_all rfl 33 _ _ rfl w3.heap.size zero3 N1 33 rfl rfl (heap_alloc_new w3 _) (by rw [HNS.out]; rfl) (by rw [HNS.out]; exact infoN) HN1O.out ?_; intro w5 hq5 hk5; have hb5 : Below w3.heap.size w3 w5 := ((Below.refl _ _).alloc (Nat.le_refl _) _).trans (hk5.below (by simp) (by simp)); have HRV5 := Lib.hid (HRV0.out.after hb5); have HBX5 := Lib.hid (show w5.heap[w.heap.size]? = some (.cells C 35 (0, 0)) from by rw [← HC.out]; exact HRV5.out.box); have HZ5 := Lib.hid HRV5.out.res; clear hq5 hk5 hb5))
    refine ret_row3 Tryz.results15 (w.heap.size + 1) _ _ _ (.string ⟨#[]⟩) (.bool false) rfl hq9 rfl rfl Tryz.underlying35 rfl (by rw [HCS.out]; exact infoP) rfl ?_
    rw [HE.out.1, HE.out.2.1, HE.out.2.2]
    exact RV.said (f := fun v => .tuple #[v, .string ⟨#[]⟩, .bool false]) ⟨HRV5.out.box, HRV5.out.res, HRV5.out.is.more (Nat.le_succ _), HRV5.out.below, HRV5.out.new, HRV5.out.old⟩ HC.out hk9
  · obtain ⟨f, hf⟩ : ∃ f, Frame.get S.data.toList = f := ⟨_, rfl⟩
    obtain ⟨E, hE⟩ : ∃ E, (Frame.why S.data.toList).2 = E := ⟨_, rfl⟩
    obtain ⟨a0, ha0⟩ : ∃ a0, (Frame.why S.data.toList).1 = a0 := ⟨_, rfl⟩
    have HFE := Lib.hid (And.intro hf (And.intro hE ha0))
    clear hf hE ha0
    obtain ⟨R6, hR6⟩ : ∃ Q9, (RM.rc (M.setN G' W' c' ws') ({ s with n := n' })).all = Q9 := ⟨_, rfl⟩
    have HS6 := Lib.hid (show R6.size = 27 from by rw [← hR6]; exact (RM.fits (M.setN G' W' c' ws') ({ s with n := n' })).size)
    have HO6 := Lib.hid (show R6.all (·.oneCell') = true from by rw [← hR6]; exact (RM.fits (M.setN G' W' c' ws') ({ s with n := n' })).all)
    have HR6 := Lib.hid hR6
    clear hR6
    go_wp2_with (first | (refine wpList_load_row rfl 33 _ rfl w3.heap.size rfl 33 N1 (0, 0) _ HQ5.out Tryz.underlying33 rfl (by rw [HNS.out]; exact infoN) ?_) | (refine wpList_store_all rfl 33 _ _ rfl w3.heap.size zero3 N1 33 rfl rfl (heap_alloc_new w3 _) (by rw [HNS.out]; rfl) (by rw [HNS.out]; exact infoN) HN1O.out ?_; intro w5 hq5 hk5; have hb5 : Below w3.heap.size w3 w5 := ((Below.refl _ _).alloc (Nat.le_refl _) _).trans (hk5.below (by simp) (by simp)); have HRV5 := Lib.hid (HRV3.out.after hb5); have HQ5 := Lib.hid hq5; have HS5 := Lib.hid (HRV5.out.box.setN HF.out (x := N1.toList) (by simpa using HNS.out)); clear hq5 hk5 hb5) | (refine wpList_store_mid rfl 33 _ _ rfl w.heap.size 24 N1 rfl rfl (by have h := HS5.out.1; rw [Array.length_toList, HNS.out] at h; rw [HNS.out]; exact h) (by rw [HNS.out]; exact infoN) HN1O.out ?_; have hbx6 := HS5.out.2.1; have hk6 := HS5.out.2.2; generalize w5.setCells w.heap.size 24 N1.toList = w6 at hbx6 hk6 ⊢; have HRV6 := Lib.hid (HRV5.out.put (r' := RM.rc (M.setN G' W' c' ws') { s with n := n' }) (by have e : ({ M.rc s with n := N1.toList } : RC) = RM.rc (M.setN G' W' c' ws') { s with n := n' } := (by rw [← HN1.out]; rfl); rw [← e]; exact hbx6) hk6); clear hbx6 hk6))
    refine (Frame.refGet_is S f a0 E _ HSZ.out HFE.out.1.symm HFE.out.2.2.symm HFE.out.2.1.symm).mono ?_
    rintro e w7 ⟨rfl, hb7⟩
    rw [show f.val = .agg #[.int .i64 f.kind, .int .i64 f.epoch, .int .u64 f.seq, .int .u64 f.ack, .string f.body] from rfl]
    have HX := Lib.hid (HRV6.out.after hb7)
    clear hb7
    obtain ⟨w8, hw8, HRV8, HBX8, HZ8, HF8⟩ : ∃ w8, w8 = w7.alloc (.cells #[.int .i64 f.kind, .int .i64 f.epoch, .int .u64 f.seq, .int .u64 f.ack, .string f.body] 83) ∧ Hid (RV w M (M.setN G' W' c' ws') { s with n := n' } (K + 1) (RM.rc (M.setN G' W' c' ws') { s with n := n' }) w8) ∧ Hid (w8.heap[w.heap.size]? = some (.cells R6 35 (0, 0))) ∧ Hid (w8.heap[w.heap.size + 1]? = some (.cells z27 35 (0, 0))) ∧ Hid (w8.heap[w7.heap.size]? = some (.cells #[.int .i64 f.kind, .int .i64 f.epoch, .int .u64 f.seq, .int .u64 f.ack, .string f.body] 83 (0, 0))) := by
      have k := HX.out.after (v' := w7.alloc (.cells #[.int .i64 f.kind, .int .i64 f.epoch, .int .u64 f.seq, .int .u64 f.ack, .string f.body] 83)) ((Below.refl _ _).alloc (Nat.le_refl _) _)
      exact ⟨_, rfl, Lib.hid k, Lib.hid (by rw [← HR6.out]; exact k.box), Lib.hid k.res, Lib.hid (heap_alloc_new w7 _)⟩
    by_cases hE : E = 0
    · have he : (E != 0) = false := by simp [hE]
      have hfr : s.frameB false k = true := by rw [HDEF.out.1, HFE.out.2.1, hE]; rfl
      have hsf : s.frame false k = f := by rw [HDEF.out.2, HFE.out.1]
      obtain ⟨td, htd⟩ : ∃ td, (s.e false).told f = td := ⟨_, rfl⟩
      obtain ⟨nx, hnx⟩ : ∃ nx, (s.e false).isNext f = nx := ⟨_, rfl⟩
      obtain ⟨X, hX⟩ : ∃ X, (s.e false).taken f = X := ⟨_, rfl⟩
      have HXOK := Lib.hid (show X.Ok from by rw [← hX]; exact (HRV8.out.is.ok false).taken f)
      have HTD := Lib.hid (And.intro htd (And.intro hnx hX))
      have HE := Lib.hid (show s.come false k = (s.lose false k).take false f ∧ s.comeS false k = td ∧ s.comeB false k = nx from by
        unfold PS.come PS.comeS PS.comeB; rw [hfr, hsf, htd, hnx]; exact ⟨rfl, rfl, rfl⟩)
      obtain ⟨E0, hE0⟩ : ∃ E0, ends (s.e false) (M.A false) (M.c false) = E0 := ⟨_, rfl⟩
      have HEND := Lib.hid (show ∀ v, Calls Tryz.prog 26 #[.agg R6, .int .i64 0] v fun e v' => e = .returned (.agg E0) ∧ Below v.heap.size v v' from fun v => by
        have := ref_end (RM.rc (M.setN G' W' c' ws') { s with n := n' }) (RM.fits _ _) 0 E0 (by rw [← hE0]; rfl) v
        rwa [HR6.out] at this)
      have HTK := Lib.hid (show ∀ v, Below w8.heap.size w8 v → Calls Tryz.prog 52 #[.agg E0, .agg #[.int .i64 f.kind, .int .i64 f.epoch, .int .u64 f.seq, .int .u64 f.ack, .string f.body]] v fun e v' => ∃ A5 c5, e = .returned (.tuple #[.agg (ends X A5 c5), .string td, .bool nx]) ∧ Low v' (M.L false) X A5 c5 ∧ Below v.heap.size v v' from fun v hv => by
        have := Link.ref_take (((HRV8.out.is.after hv).low false)) (HRV8.out.is.ok false) f.kind f.epoch f.seq f.ack f.body (by rw [← HFE.out.1]; exact get_ack _)
        rw [show ends (({ s with n := n' } : PS).e false) ((M.setN G' W' c' ws').A false) ((M.setN G' W' c' ws').c false) = E0 from hE0] at this
        refine this.mono ?_
        rintro e v' ⟨A5, c5, rfl, h1, h2⟩
        refine ⟨A5, c5, ?_, ?_, h2⟩
        · rw [← hX, ← htd, ← hnx]
        · rw [← hX]; exact h1)
      clear hE hfr hsf htd hnx hE0 hX
      go_wp2_with fail
      rw [← hw8]
      refine' wp_flow [only 0 (.agg R6), only 1 _, only 2 (.agg E0), only 3 (.agg #[.int .i64 f.kind, .int .i64 f.epoch, .int .u64 f.seq, .int .u64 f.ack, .string f.body]), own 4 (fun y v => ∃ A5 c5, y = .tuple #[.agg (ends X A5 c5), .string td, .bool nx] ∧ Low v (M.L false) X A5 c5), own 5 (fun y v => ∃ A5 c5, y = .tuple #[.agg (ends X A5 c5), .string td, .bool nx] ∧ Low v (M.L false) X A5 c5), own 6 (fun y v => ∃ A5 c5, y = .agg (ends X A5 c5) ∧ Low v (M.L false) X A5 c5), only 7 (.string td), only 8 (.bool nx), own 9 (fun y v => ∃ g, y = .pointer (some ⟨g, 0, none⟩) ∧ w8.heap.size ≤ g ∧ v.heap[g]? = some (.cells zero11 30 (0, 0))), (fun us v => ∃ A5 c5 g, us 6 = .agg (ends X A5 c5) ∧ us 9 = .pointer (some ⟨g, 0, none⟩) ∧ w8.heap.size ≤ g ∧ v.heap[g]? = some (.cells (ends X A5 c5) 30 (0, 0)) ∧ Low v (M.L false) X A5 c5), only 11 _, only 12 _] (fun v => Below w8.heap.size w8 v) [[], [], [0, 1], [], [2, 3], [4], [5], [5], [5], [], [6, 9], [7], [8]] [[], [], [], [], [], [4], [], [], [], [], [6, 9], [], []] [[], [], [], [], [], [], [], [], [], [], [], [], []] [[9], [9], [9], [9], [9], [9], [5, 9], [5, 6, 9, 10], [5, 6, 9, 10], [4, 5, 6], [5], [5, 10], [5, 10]] [4, 5, 6, 9, 10] [0, 0, 3, 0, 15, 31, 63, 63, 63, 0, 639, 1791, 4095] _ (fun us => ?hfr) (by kernel_rfl) (by kernel_rfl) (by kernel_rfl) ⟨only_still _, only_still _, only_still _, only_still _, trivial, trivial, trivial, only_still _, only_still _, trivial, trivial, only_still _, only_still _, trivial⟩ (below_drewN (Below.refl _ _) 1) (by simp) (trivial) ?hst ?hla
      case hfr => (simp only [List.cons_append, List.nil_append, putAll, Act.put, List.setIfInBounds_toArray, List.set_cons_zero, List.set_cons_succ, Nat.reduceAdd]; rfl)
      case hst =>
        refine ⟨?_, ?_, ?_, ?_, ?_, ?_, ?_, ?_, ?_, ?_, ?_, ?_, ?_, trivial⟩
        · intro us v hR hn ho K hK
          clear ho
          have hbx : v.heap[w.heap.size]? = some (.cells R6 35 (0, 0)) := (hR.block _ (lt_of_block HBX8.out)).trans HBX8.out; have hfx : v.heap[w7.heap.size]? = some (.cells #[.int .i64 f.kind, .int .i64 f.epoch, .int .u64 f.seq, .int .u64 f.ack, .string f.body] 83 (0, 0)) := (hR.block _ (lt_of_block HF8.out)).trans HF8.out; have z0 := cell_of_block hfx 0; have z1 := cell_of_block hfx 1; have z2 := cell_of_block hfx 2; have z3 := cell_of_block hfx 3; have z4 := cell_of_block hfx 4; simp at z0 z1 z2 z3 z4
          have hcs : (Tryz.prog.info? 35).map (·.size) = some R6.size := by rw [HS6.out]; exact infoP
          rw [if_pos (by rfl)]
          refine wp_load_row 35 _ (by rfl) w.heap.size (by rfl) 35 R6 (0, 0) _ hbx Tryz.underlying35 rfl hcs ?_
          refine hK _ _ _ (by simp only [Act.put, List.setIfInBounds_toArray, List.set_cons_zero, List.set_cons_succ, Nat.reduceAdd] <;> rfl) ?_ hR ⟨fun h => h, trivial⟩
          exact only_mk (v := v) rfl
        · intro us v hR hn ho K hK
          clear ho
          have hbx : v.heap[w.heap.size]? = some (.cells R6 35 (0, 0)) := (hR.block _ (lt_of_block HBX8.out)).trans HBX8.out; have hfx : v.heap[w7.heap.size]? = some (.cells #[.int .i64 f.kind, .int .i64 f.epoch, .int .u64 f.seq, .int .u64 f.ack, .string f.body] 83 (0, 0)) := (hR.block _ (lt_of_block HF8.out)).trans HF8.out; have z0 := cell_of_block hfx 0; have z1 := cell_of_block hfx 1; have z2 := cell_of_block hfx 2; have z3 := cell_of_block hfx 3; have z4 := cell_of_block hfx 4; simp at z0 z1 z2 z3 z4
          rw [if_pos (by rfl)]
          go_simp
          refine hK _ _ _ (by simp only [Act.put, List.setIfInBounds_toArray, List.set_cons_zero, List.set_cons_succ, Nat.reduceAdd] <;> rfl) ?_ hR ⟨fun h => h, trivial⟩
          refine only_mk (v := v) ?_
          with_reducible rfl
        · intro us v hR hn ho K hK
          obtain ⟨n0, n1, -⟩ := hn
          have n0 : us 0 = _ := n0
          have n1 : us 1 = _ := n1
          clear ho
          have hbx : v.heap[w.heap.size]? = some (.cells R6 35 (0, 0)) := (hR.block _ (lt_of_block HBX8.out)).trans HBX8.out; have hfx : v.heap[w7.heap.size]? = some (.cells #[.int .i64 f.kind, .int .i64 f.epoch, .int .u64 f.seq, .int .u64 f.ack, .string f.body] 83 (0, 0)) := (hR.block _ (lt_of_block HF8.out)).trans HF8.out; have z0 := cell_of_block hfx 0; have z1 := cell_of_block hfx 1; have z2 := cell_of_block hfx 2; have z3 := cell_of_block hfx 3; have z4 := cell_of_block hfx 4; simp at z0 z1 z2 z3 z4
          rw [if_pos (by rfl)]
          clear hbx hfx z0 z1 z2 z3 z4
          go_simp
          refine (HEND.out v).mono ?_
          rintro e v' ⟨rfl, hb'⟩
          dsimp only
          refine hK _ _ _ (by simp only [Act.put, List.setIfInBounds_toArray, List.set_cons_zero, List.set_cons_succ, Nat.reduceAdd, n0, n1] <;> rfl) ?_ (hR.trans (hb'.mono hR.size)) ⟨fun ⟨g, h1, h2, h3⟩ => ⟨g, h1, h2, (hb'.block _ (lt_of_block h3)).trans h3⟩, trivial⟩
          exact only_mk (v := v') rfl
        · intro us v hR hn ho K hK
          clear ho
          have hbx : v.heap[w.heap.size]? = some (.cells R6 35 (0, 0)) := (hR.block _ (lt_of_block HBX8.out)).trans HBX8.out; have hfx : v.heap[w7.heap.size]? = some (.cells #[.int .i64 f.kind, .int .i64 f.epoch, .int .u64 f.seq, .int .u64 f.ack, .string f.body] 83 (0, 0)) := (hR.block _ (lt_of_block HF8.out)).trans HF8.out; have z0 := cell_of_block hfx 0; have z1 := cell_of_block hfx 1; have z2 := cell_of_block hfx 2; have z3 := cell_of_block hfx 3; have z4 := cell_of_block hfx 4; simp at z0 z1 z2 z3 z4
          rw [if_pos (by rfl)]
          go_simp
          refine hK _ _ _ (by simp only [Act.put, List.setIfInBounds_toArray, List.set_cons_zero, List.set_cons_succ, Nat.reduceAdd] <;> rfl) ?_ hR ⟨fun h => h, trivial⟩
          refine only_mk (v := v) ?_
          with_reducible rfl
        · intro us v hR hn ho K hK
          obtain ⟨n2, n3, -⟩ := hn
          have n2 : us 2 = _ := n2
          have n3 : us 3 = _ := n3
          clear ho
          have hbx : v.heap[w.heap.size]? = some (.cells R6 35 (0, 0)) := (hR.block _ (lt_of_block HBX8.out)).trans HBX8.out; have hfx : v.heap[w7.heap.size]? = some (.cells #[.int .i64 f.kind, .int .i64 f.epoch, .int .u64 f.seq, .int .u64 f.ack, .string f.body] 83 (0, 0)) := (hR.block _ (lt_of_block HF8.out)).trans HF8.out; have z0 := cell_of_block hfx 0; have z1 := cell_of_block hfx 1; have z2 := cell_of_block hfx 2; have z3 := cell_of_block hfx 3; have z4 := cell_of_block hfx 4; simp at z0 z1 z2 z3 z4
          rw [if_pos (by rfl)]
          clear hbx hfx z0 z1 z2 z3 z4
          go_simp
          refine (HTK.out v hR).mono ?_
          rintro e v' ⟨A5, c5, rfl, hl5, hb5⟩
          dsimp only
          exact hK _ _ _ (by simp only [Act.put, List.setIfInBounds_toArray, List.set_cons_zero, List.set_cons_succ, Nat.reduceAdd, n2, n3] <;> rfl) ⟨A5, c5, rfl, hl5⟩ (hR.trans (hb5.mono hR.size)) ⟨fun ⟨g, h1, h2, h3⟩ => ⟨g, h1, h2, (hb5.block _ (lt_of_block h3)).trans h3⟩, trivial⟩
        · intro us v hR hn ho K hK
          obtain ⟨n4, -⟩ := hn
          clear ho
          have hbx : v.heap[w.heap.size]? = some (.cells R6 35 (0, 0)) := (hR.block _ (lt_of_block HBX8.out)).trans HBX8.out; have hfx : v.heap[w7.heap.size]? = some (.cells #[.int .i64 f.kind, .int .i64 f.epoch, .int .u64 f.seq, .int .u64 f.ack, .string f.body] 83 (0, 0)) := (hR.block _ (lt_of_block HF8.out)).trans HF8.out; have z0 := cell_of_block hfx 0; have z1 := cell_of_block hfx 1; have z2 := cell_of_block hfx 2; have z3 := cell_of_block hfx 3; have z4 := cell_of_block hfx 4; simp at z0 z1 z2 z3 z4
          obtain ⟨A5, c5, e4, k4⟩ := n4
          rw [if_pos (by rfl)]
          go_simp
          refine hK _ _ _ (by simp only [Act.put, List.setIfInBounds_toArray, List.set_cons_zero, List.set_cons_succ, Nat.reduceAdd, e4] <;> rfl) ⟨A5, c5, rfl, k4⟩ hR ⟨fun h => h, trivial⟩
        · intro us v hR hn ho K hK
          obtain ⟨n5, -⟩ := hn
          clear ho
          have hbx : v.heap[w.heap.size]? = some (.cells R6 35 (0, 0)) := (hR.block _ (lt_of_block HBX8.out)).trans HBX8.out; have hfx : v.heap[w7.heap.size]? = some (.cells #[.int .i64 f.kind, .int .i64 f.epoch, .int .u64 f.seq, .int .u64 f.ack, .string f.body] 83 (0, 0)) := (hR.block _ (lt_of_block HF8.out)).trans HF8.out; have z0 := cell_of_block hfx 0; have z1 := cell_of_block hfx 1; have z2 := cell_of_block hfx 2; have z3 := cell_of_block hfx 3; have z4 := cell_of_block hfx 4; simp at z0 z1 z2 z3 z4
          obtain ⟨A5, c5, e5, k5⟩ := n5
          rw [if_pos (by rfl)]
          go_simp
          refine hK _ _ _ (by simp only [Act.put, List.setIfInBounds_toArray, List.set_cons_zero, List.set_cons_succ, Nat.reduceAdd, e5] <;> rfl) ⟨A5, c5, rfl, k5⟩ hR ⟨fun h => h, fun h => h, trivial⟩
        · intro us v hR hn ho K hK
          obtain ⟨n5, -⟩ := hn
          clear ho
          have hbx : v.heap[w.heap.size]? = some (.cells R6 35 (0, 0)) := (hR.block _ (lt_of_block HBX8.out)).trans HBX8.out; have hfx : v.heap[w7.heap.size]? = some (.cells #[.int .i64 f.kind, .int .i64 f.epoch, .int .u64 f.seq, .int .u64 f.ack, .string f.body] 83 (0, 0)) := (hR.block _ (lt_of_block HF8.out)).trans HF8.out; have z0 := cell_of_block hfx 0; have z1 := cell_of_block hfx 1; have z2 := cell_of_block hfx 2; have z3 := cell_of_block hfx 3; have z4 := cell_of_block hfx 4; simp at z0 z1 z2 z3 z4
          obtain ⟨A5, c5, e5, k5⟩ := n5
          rw [if_pos (by rfl)]
          go_simp
          refine hK _ _ _ (by simp only [Act.put, List.setIfInBounds_toArray, List.set_cons_zero, List.set_cons_succ, Nat.reduceAdd, e5] <;> rfl) (only_mk (v := v) rfl) hR ⟨fun h => h, fun h => h, fun h => h, fun h => h, trivial⟩
        · intro us v hR hn ho K hK
          obtain ⟨n5, -⟩ := hn
          clear ho
          have hbx : v.heap[w.heap.size]? = some (.cells R6 35 (0, 0)) := (hR.block _ (lt_of_block HBX8.out)).trans HBX8.out; have hfx : v.heap[w7.heap.size]? = some (.cells #[.int .i64 f.kind, .int .i64 f.epoch, .int .u64 f.seq, .int .u64 f.ack, .string f.body] 83 (0, 0)) := (hR.block _ (lt_of_block HF8.out)).trans HF8.out; have z0 := cell_of_block hfx 0; have z1 := cell_of_block hfx 1; have z2 := cell_of_block hfx 2; have z3 := cell_of_block hfx 3; have z4 := cell_of_block hfx 4; simp at z0 z1 z2 z3 z4
          obtain ⟨A5, c5, e5, k5⟩ := n5
          rw [if_pos (by rfl)]
          go_simp
          refine hK _ _ _ (by simp only [Act.put, List.setIfInBounds_toArray, List.set_cons_zero, List.set_cons_succ, Nat.reduceAdd, e5] <;> rfl) (only_mk (v := v) rfl) hR ⟨fun h => h, fun h => h, fun h => h, fun h => h, trivial⟩
        · intro us v hR hn ho K hK
          clear ho
          have hbx : v.heap[w.heap.size]? = some (.cells R6 35 (0, 0)) := (hR.block _ (lt_of_block HBX8.out)).trans HBX8.out; have hfx : v.heap[w7.heap.size]? = some (.cells #[.int .i64 f.kind, .int .i64 f.epoch, .int .u64 f.seq, .int .u64 f.ack, .string f.body] 83 (0, 0)) := (hR.block _ (lt_of_block HF8.out)).trans HF8.out; have z0 := cell_of_block hfx 0; have z1 := cell_of_block hfx 1; have z2 := cell_of_block hfx 2; have z3 := cell_of_block hfx 3; have z4 := cell_of_block hfx 4; simp at z0 z1 z2 z3 z4
          rw [if_pos (by rfl)]
          go_simp
          exact hK _ _ _ (by simp only [Act.put, List.setIfInBounds_toArray, List.set_cons_zero, List.set_cons_succ, Nat.reduceAdd] <;> rfl) ⟨v.heap.size, rfl, hR.size, heap_alloc_new v _⟩ (hR.alloc hR.size _) ⟨fun ⟨A5, c5, h1, h2⟩ => ⟨A5, c5, h1, h2.alloc _⟩, fun ⟨A5, c5, h1, h2⟩ => ⟨A5, c5, h1, h2.alloc _⟩, fun ⟨A5, c5, h1, h2⟩ => ⟨A5, c5, h1, h2.alloc _⟩, trivial⟩
        · intro us v hR hn ho K hK
          obtain ⟨n6, n9, -⟩ := hn
          clear ho
          have hbx : v.heap[w.heap.size]? = some (.cells R6 35 (0, 0)) := (hR.block _ (lt_of_block HBX8.out)).trans HBX8.out; have hfx : v.heap[w7.heap.size]? = some (.cells #[.int .i64 f.kind, .int .i64 f.epoch, .int .u64 f.seq, .int .u64 f.ack, .string f.body] 83 (0, 0)) := (hR.block _ (lt_of_block HF8.out)).trans HF8.out; have z0 := cell_of_block hfx 0; have z1 := cell_of_block hfx 1; have z2 := cell_of_block hfx 2; have z3 := cell_of_block hfx 3; have z4 := cell_of_block hfx 4; simp at z0 z1 z2 z3 z4
          obtain ⟨A5, c5, e6, k6⟩ := n6
          obtain ⟨g1, e9, hg1, hg2⟩ := n9
          rw [if_pos (by rfl)]
          refine wp_store_all 30 (.tmp 15) (.tmp 57) (by rfl) g1 _ _ _ e9 e6 hg2 rfl (by kernel_rfl) (by simp [ends, Value.oneCell']) ?_
          intro v' hq hk
          exact hK undef _ _ (by simp only [Act.put, List.setIfInBounds_toArray, List.set_cons_zero, List.set_cons_succ, Nat.reduceAdd, e6, e9] <;> rfl) ⟨A5, c5, g1, e6, e9, hg1, hq, low_struck k6 hg2 hk⟩ (hR.trans (hk.below hR.size (by simp; exact hg1))) ⟨fun ⟨A5, c5, h1, h2⟩ => ⟨A5, c5, h1, low_struck h2 hg2 hk⟩, trivial⟩
        · intro us v hR hn ho K hK
          obtain ⟨n7, -⟩ := hn
          have n7 : us 7 = _ := n7
          clear ho
          have hbx : v.heap[w.heap.size]? = some (.cells R6 35 (0, 0)) := (hR.block _ (lt_of_block HBX8.out)).trans HBX8.out; have hfx : v.heap[w7.heap.size]? = some (.cells #[.int .i64 f.kind, .int .i64 f.epoch, .int .u64 f.seq, .int .u64 f.ack, .string f.body] 83 (0, 0)) := (hR.block _ (lt_of_block HF8.out)).trans HF8.out; have z0 := cell_of_block hfx 0; have z1 := cell_of_block hfx 1; have z2 := cell_of_block hfx 2; have z3 := cell_of_block hfx 3; have z4 := cell_of_block hfx 4; simp at z0 z1 z2 z3 z4
          rw [if_pos (by rfl)]
          go_simp
          refine hK _ _ _ (by simp only [Act.put, List.setIfInBounds_toArray, List.set_cons_zero, List.set_cons_succ, Nat.reduceAdd, n7] <;> rfl) ?_ hR ⟨fun h => h, fun h => h, trivial⟩
          refine only_mk (v := v) ?_
          with_reducible rfl
        · intro us v hR hn ho K hK
          obtain ⟨n8, -⟩ := hn
          have n8 : us 8 = _ := n8
          clear ho
          have hbx : v.heap[w.heap.size]? = some (.cells R6 35 (0, 0)) := (hR.block _ (lt_of_block HBX8.out)).trans HBX8.out; have hfx : v.heap[w7.heap.size]? = some (.cells #[.int .i64 f.kind, .int .i64 f.epoch, .int .u64 f.seq, .int .u64 f.ack, .string f.body] 83 (0, 0)) := (hR.block _ (lt_of_block HF8.out)).trans HF8.out; have z0 := cell_of_block hfx 0; have z1 := cell_of_block hfx 1; have z2 := cell_of_block hfx 2; have z3 := cell_of_block hfx 3; have z4 := cell_of_block hfx 4; simp at z0 z1 z2 z3 z4
          rw [if_pos (by rfl)]
          go_simp
          refine hK _ _ _ (by simp only [Act.put, List.setIfInBounds_toArray, List.set_cons_zero, List.set_cons_succ, Nat.reduceAdd, n8] <;> rfl) ?_ hR ⟨fun h => h, fun h => h, trivial⟩
          refine only_mk (v := v) ?_
          with_reducible rfl
      case hla =>
        intro us v hR hl
        obtain ⟨n0, n1, n2, n3, n5, n7, n8, n10, n11, n12, -⟩ := need_last hl [0, 1, 2, 3, 5, 7, 8, 10, 11, 12] (by kernel_rfl)
        have n0 : us 0 = _ := n0
        have n1 : us 1 = _ := n1
        have n2 : us 2 = _ := n2
        have n3 : us 3 = _ := n3
        have n7 : us 7 = _ := n7
        have n8 : us 8 = _ := n8
        have n11 : us 11 = _ := n11
        have n12 : us 12 = _ := n12
        have hbx : v.heap[w.heap.size]? = some (.cells R6 35 (0, 0)) := (hR.block _ (lt_of_block HBX8.out)).trans HBX8.out; have hfx : v.heap[w7.heap.size]? = some (.cells #[.int .i64 f.kind, .int .i64 f.epoch, .int .u64 f.seq, .int .u64 f.ack, .string f.body] 83 (0, 0)) := (hR.block _ (lt_of_block HF8.out)).trans HF8.out; have z0 := cell_of_block hfx 0; have z1 := cell_of_block hfx 1; have z2 := cell_of_block hfx 2; have z3 := cell_of_block hfx 3; have z4 := cell_of_block hfx 4; simp at z0 z1 z2 z3 z4
        simp only [n0, n1, n2, n3, n7, n8, n11, n12]
        clear hl n0 n1 n2 n3 n7 n8 n11 n12
        obtain ⟨A5, c5, g1, e6, e9, hg1, hq1, hl1⟩ := n10
        obtain ⟨G2, hl2, hG2, hG3⟩ := Low.trim hl1
        obtain ⟨E1, hE1⟩ : ∃ E1, ends X A5 c5 = E1 := ⟨_, rfl⟩
        have HES := Lib.hid (show E1.size = 11 from by rw [← hE1]; rfl)
        have HEO := Lib.hid (show E1.all (·.oneCell') = true from by rw [← hE1]; simp [ends, Value.oneCell'])
        rw [hE1] at hq1 e6
        simp only [e6, e9]
        obtain ⟨R7, hR7⟩ : ∃ Q9, (RM.rc ((M.setN G' W' c' ws').setE false A5 c5 G2) ({ ({ s with n := n' } : PS) with e := up s.e false X })).all = Q9 := ⟨_, rfl⟩
        have HS7 := Lib.hid (show R7.size = 27 from by rw [← hR7]; exact (RM.fits ((M.setN G' W' c' ws').setE false A5 c5 G2) ({ ({ s with n := n' } : PS) with e := up s.e false X })).size)
        have HO7 := Lib.hid (show R7.all (·.oneCell') = true from by rw [← hR7]; exact (RM.fits ((M.setN G' W' c' ws').setE false A5 c5 G2) ({ ({ s with n := n' } : PS) with e := up s.e false X })).all)
        have HR7 := Lib.hid hR7
        have hrv9 := HRV8.out.after hR
        have HRV10 := Lib.hid (hrv9.setE false hl2 HXOK.out hG3 (fun j hj => .inl (hG2 j hj)))
        have HWITH := Lib.hid (show Calls Tryz.prog 37 #[.agg R6, .int .i64 0, .agg E1] v fun e v' => e = .returned (.agg R7) ∧ Below v.heap.size v v' from by
          have := ref_with (RM.rc (M.setN G' W' c' ws') { s with n := n' }) (RM.fits _ _) 0 E1.toList (by simpa using HES.out) (fun u hu => (Array.all_eq_true_iff_forall_mem.1 HEO.out) u (by simpa using hu)) R7 (by rw [← hR7, ← hE1]; exact congrArg RC.all (RM.setE_rc (M.setN G' W' c' ws') { s with n := n' } false A5 c5 G2 X)) v
          have hxe : E1.toList.toArray = E1 := by simp
          rwa [HR6.out, hxe] at this)
        have HBX9 := Lib.hid hbx
        have HQ1 := Lib.hid hq1
        clear hR7 hE1 hq1 hl1 hl2 hG2 hG3 e6 e9 hbx hfx z0 z1 z2 z3 z4 hrv9 hR
        go_wp2_with (first | (refine wpList_load_row rfl 35 _ rfl w.heap.size rfl 35 R6 (0, 0) _ HBX9.out Tryz.underlying35 rfl (by rw [HS6.out]; exact infoP) ?_) | (refine wpList_load_row rfl 30 _ rfl g1 rfl 30 E1 (0, 0) _ HQ1.out Tryz.underlying30 rfl (by rw [HES.out]; exact infoE) ?_))
        refine (HWITH.out).mono ?_
        rintro e w10 ⟨rfl, hb10⟩
        have HRV11 := Lib.hid (HRV10.out.after hb10)
        have HBX11 := Lib.hid ((hb10.block _ (lt_of_block HBX9.out)).trans HBX9.out)
        clear hb10
        cases nx
        · have HE2 := Lib.hid (show s.come false k = { ({ s with n := n' } : PS) with e := up s.e false X } from by
            rw [HE.out.1, HLO.out]
            unfold PS.take
            rw [show (({ s with n := n' } : PS).e false).isNext f = false from HTD.out.2.1, show (({ s with n := n' } : PS).e false).taken f = X from HTD.out.2.2]
            simp only [Bool.false_eq_true, if_false, up_id])
          go_wp2_with (first | (refine wpList_store_all rfl 35 _ _ rfl w.heap.size R6 R7 35 rfl rfl HBX11.out (by rw [HS6.out, HS7.out]) (by rw [HS7.out]; exact infoP) HO7.out ?_; intro w12 hq12 hk12; have HRV12 := Lib.hid (HRV11.out.put (r' := RM.rc ((M.setN G' W' c' ws').setE false A5 c5 G2) { ({ s with n := n' } : PS) with e := up s.e false X }) (by unfold RBox; rw [HR7.out]; exact hq12) hk12); have HBX12 := Lib.hid hq12; have HZ12 := Lib.hid HRV12.out.res; clear hq12 hk12) | (refine wpList_load_row rfl 35 _ rfl w.heap.size rfl 35 R7 (0, 0) _ HBX12.out Tryz.underlying35 rfl (by rw [HS7.out]; exact infoP) ?_) | (refine wpList_store_all rfl 35 _ _ rfl (w.heap.size + 1) z27 R7 35 rfl rfl HZ12.out (by rw [HS7.out]; rfl) (by rw [HS7.out]; exact infoP) HO7.out ?_; intro w9 hq9 hk9))
          refine ret_row3 Tryz.results15 (w.heap.size + 1) _ _ _ (.string td) (.bool false) rfl hq9 rfl rfl Tryz.underlying35 rfl (by rw [HS7.out]; exact infoP) rfl ?_
          rw [HE2.out, HE.out.2.1, HE.out.2.2]
          exact RV.said (f := fun v => .tuple #[v, .string td, .bool false]) HRV12.out HR7.out hk9
        · obtain ⟨ys, hys⟩ : ∃ ys, s.g false ++ [td] = ys := ⟨_, rfl⟩
          have HYS := Lib.hid hys
          have HYL := Lib.hid (show (s.g false).length + 1 = ys.length from by rw [← hys]; simp)
          have HE2 := Lib.hid (show s.come false k = { ({ ({ s with n := n' } : PS) with e := up s.e false X } : PS) with g := up s.g false ys } from by
            rw [HE.out.1, HLO.out]
            unfold PS.take
            rw [show (({ s with n := n' } : PS).e false).isNext f = true from HTD.out.2.1, show (({ s with n := n' } : PS).e false).taken f = X from HTD.out.2.2, if_pos rfl, show (({ s with n := n' } : PS).e false).told f = td from HTD.out.1]
            rw [← HYS.out])
          clear hys
          obtain ⟨xs, hxs⟩ : ∃ xs, s.g false = xs := ⟨_, rfl⟩
          have HXS := Lib.hid hxs
          have hgl := HG.out
          rw [hxs] at hgl
          have HYX := Lib.hid (show xs.length + 1 = ys.length ∧ xs.map Value.string ++ [.string td] = ys.map .string from by rw [← hxs, ← HYS.out]; simp)
          clear hxs
          go_wp2_with (first | (refine wpList_store_all rfl 35 _ _ rfl w.heap.size R6 R7 35 rfl rfl HBX11.out (by rw [HS6.out, HS7.out]) (by rw [HS7.out]; exact infoP) HO7.out ?_; intro w12 hq12 hk12; have hrv12 := HRV11.out.put (r' := RM.rc ((M.setN G' W' c' ws').setE false A5 c5 G2) { ({ s with n := n' } : PS) with e := up s.e false X }) (by unfold RBox; rw [HR7.out]; exact hq12) hk12; have HRV12 := Lib.hid hrv12; have yg : (w12.alloc (.cells #[] 9)).cell? ⟨w.heap.size, 22, none⟩ = some (.slice (M.g false).A xs.length (M.g false).c) := (by have := RBox.ga hrv12.box (RM.fits _ _); rw [← HXS.out]; exact (World.cell?_alloc_lt _ _ _ (by exact lt_of_block hrv12.box)).trans this); have HBX12 := Lib.hid hq12; clear hq12 hk12 hrv12; have HB0 := Lib.hid (show Below w12.heap.size w12 (w12.alloc (.cells #[] 9)) from (Below.refl _ _).alloc (Nat.le_refl _) _); have HV0 := Lib.hid (show Vec (w12.alloc (.cells #[] 9)) (M.g false).F 1 (M.g false).A xs.length (M.g false).c (xs.map .string) from by (skip; have := HRV12.out.is.got false; rw [← HXS.out]; exact this.after HB0.out))) | (at_builtin; (refine wpList_append_vec _ (by rfl) _ _ _ _ (by rfl) 9 i0 _ 1 16 Tryz.underlying28 hi0 hz0 hz1 hz2 rfl [w12.heap.size] (some ⟨w12.heap.size, 0, none⟩) 0 0 [] (.slice (M.g false).A xs.length (M.g false).c) xs.length (xs.map .string) (by rfl) (by rfl) (by exact Net.vec_empty w12 9 1 w12.heap.size rfl) (by exact HV0.out.src Tryz.underlying28 (by simp [Value.oneCell'])) (by unfold maxLen; omega) (by omega) ?_; intro v6 w13 happ; rw [Nat.zero_add, List.nil_append] at happ; obtain ⟨F6, A6, c6, rfl, hv6, ht6⟩ := happ.all; obtain ⟨hb6, hf6⟩ := ht6.below (B := w12.heap.size) (by simp) (by simp); have HB6 := Lib.hid (HB0.out.trans hb6); have HV6 := Lib.hid (And.intro hv6 hf6); clear happ hv6 ht6 hb6 hf6; have HBS := Lib.hid (show Below w13.heap.size w13 (w13.alloc (.cells #[.string td] 9)) from (Below.refl _ _).alloc (Nat.le_refl _) _); have HVS := Lib.hid (HV6.out.1.after HBS.out); clear yg)) | (at_builtin; (refine wpList_append_vec _ (by rfl) _ _ _ _ (by rfl) 9 i0 _ 1 16 Tryz.underlying28 hi0 hz0 hz1 hz2 rfl F6 A6 xs.length c6 (xs.map .string) (.slice (some ⟨w13.heap.size, 0, none⟩) 1 1) 1 [.string td] (by rfl) (by rfl) (by exact HVS.out) (by exact src_new _ Tryz.underlying28 [.string td] 1 1 1 rfl (by simp [Value.oneCell']) _ (heap_alloc_new w13 _)) (by unfold maxLen; omega) (by omega) ?_; intro v7 w14 happ; obtain ⟨F7, A7, c7, rfl, hv7, ht7⟩ := happ.all; obtain ⟨hb7, hf7⟩ := ht7.below (B := w12.heap.size) (by have := HB6.out.size; simp; omega) HV6.out.2; have HB7 := Lib.hid (HB6.out.trans ((HBS.out.mono HB6.out.size).trans hb7)); have HRV14 := Lib.hid (HRV12.out.after HB7.out); have yg : w14.cell? ⟨w.heap.size, 22, none⟩ = some (.slice (M.g false).A xs.length (M.g false).c) := (by have := RBox.ga HRV14.out.box (RM.fits _ _); rw [← HXS.out]; exact this); have fg : w14.frozen? ⟨w.heap.size, 22, none⟩ = false := frozen_of_block HRV14.out.box _; rw [HYX.out.1, HYX.out.2] at hv7; have hq15 := set_block HRV14.out.box 22 (.slice A7 (xs.length + 1) c7); have hk15 : Kept [w.heap.size] w14 (w14.setCell ⟨w.heap.size, 22, none⟩ (.slice A7 (xs.length + 1) c7)) := (Kept.refl [w.heap.size] w14).setCell (.inl (by simp)) _; have HRV15 : Hid (RV w M (((M.setN G' W' c' ws').setE false A5 c5 G2).setG false ⟨A7, c7, F7⟩) ({ ({ ({ s with n := n' } : PS) with e := up s.e false X } : PS) with g := up s.g false ys } : PS) (K + 1) (RM.rc (((M.setN G' W' c' ws').setE false A5 c5 G2).setG false ⟨A7, c7, F7⟩) ({ ({ ({ s with n := n' } : PS) with e := up s.e false X } : PS) with g := up s.g false ys } : PS)) (w14.setCell ⟨w.heap.size, 22, none⟩ (.slice A7 (xs.length + 1) c7))) := Lib.hid ((HRV14.out.setG false (a := ⟨A7, c7, F7⟩) (l := ys) hv7 (fun j hj => Nat.le_trans HRV12.out.lt (hf7 j hj))).put (by have e := rc_set_false ((M.setN G' W' c' ws').setE false A5 c5 G2) { ({ s with n := n' } : PS) with e := up s.e false X } ⟨A7, c7, F7⟩ ys; rw [← HYX.out.1] at e; unfold RBox; rw [← e]; exact hq15) hk15); obtain ⟨R15, hR15⟩ : ∃ Q9, (RM.rc (((M.setN G' W' c' ws').setE false A5 c5 G2).setG false ⟨A7, c7, F7⟩) ({ ({ ({ s with n := n' } : PS) with e := up s.e false X } : PS) with g := up s.g false ys } : PS)).all = Q9 := ⟨_, rfl⟩; have HS15 := Lib.hid (show R15.size = 27 from by rw [← hR15]; exact (RM.fits _ _).size); have HO15 := Lib.hid (show R15.all (·.oneCell') = true from by rw [← hR15]; exact (RM.fits _ _).all); have HR15 := Lib.hid hR15; have HBX15 : Hid ((w14.setCell ⟨w.heap.size, 22, none⟩ (.slice A7 (xs.length + 1) c7)).heap[w.heap.size]? = some (.cells R15 35 (0, 0))) := Lib.hid (by rw [← hR15]; exact HRV15.out.box); have HZ15 := Lib.hid HRV15.out.res; clear happ hv7 ht7 hb7 hf7 hq15 hk15 hR15)) | (refine wpList_load_row rfl 35 _ rfl w.heap.size rfl 35 R15 (0, 0) _ HBX15.out Tryz.underlying35 rfl (by rw [HS15.out]; exact infoP) ?_) | (refine wpList_store_all rfl 35 _ _ rfl (w.heap.size + 1) z27 R15 35 rfl rfl HZ15.out (by rw [HS15.out]; rfl) (by rw [HS15.out]; exact infoP) HO15.out ?_; intro w9 hq9 hk9))
          refine ret_row3 Tryz.results15 (w.heap.size + 1) _ _ _ (.string td) (.bool true) rfl hq9 rfl rfl Tryz.underlying35 rfl (by rw [HS15.out]; exact infoP) rfl ?_
          rw [HE2.out, HE.out.2.1, HE.out.2.2]
          exact RV.said (f := fun v => .tuple #[v, .string td, .bool true]) HRV15.out HR15.out hk9
    · have he : (E != 0) = true := by simp [hE]
      have HE := Lib.hid (show s.come false k = { s with n := n' } ∧ s.comeS false k = ⟨#[]⟩ ∧ s.comeB false k = false from by
        have hfr : s.frameB false k = false := by rw [HDEF.out.1, HFE.out.2.1]; simp [hE]
        unfold PS.come PS.comeS PS.comeB; rw [hfr, HLO.out]; exact ⟨rfl, rfl, rfl⟩)
      subst hw8
      go_wp2_with (first | (refine wpList_load_row rfl 35 _ rfl w.heap.size rfl 35 R6 (0, 0) _ HBX8.out Tryz.underlying35 rfl (by rw [HS6.out]; exact infoP) ?_) | (refine wpList_store_all rfl 35 _ _ rfl (w.heap.size + 1) z27 R6 35 rfl rfl HZ8.out (by rw [HS6.out]; rfl) (by rw [HS6.out]; exact infoP) HO6.out ?_; intro w9 hq9 hk9))
      refine ret_row3 Tryz.results15 (w.heap.size + 1) _ _ _ (.string ⟨#[]⟩) (.bool false) rfl hq9 rfl rfl Tryz.underlying35 rfl (by rw [HS6.out]; exact infoP) rfl ?_
      rw [HE.out.1, HE.out.2.1, HE.out.2.2]
      exact RV.said (f := fun v => .tuple #[v, .string ⟨#[]⟩, .bool false]) HRV8.out HR6.out hk9
set_option maxRecDepth 100000 in
set_option maxHeartbeats 8000000 in
theorem ref_come_true (h : RIs w M s K) (hK : K ≤ 900) (hsh : Short s.n) (hg : (s.g true).length ≤ 1000000) (k : Int) : Calls Tryz.prog 15 #[.agg (M.rc s).all, .int .i64 1, .int .i64 k] w (RefSaid w M (s.come true k) (K + 1) (fun v => .tuple #[v, .string (s.comeS true k), .bool (s.comeB true k)])) := by
  obtain ⟨i0, hi0, hz0, hz1, hz2⟩ := info_parts Link.str_info
  have hlen := h.len
  have hfits := M.fits s
  obtain ⟨C, hC⟩ : ∃ C, (M.rc s).all = C := ⟨_, rfl⟩
  have HCS := Lib.hid (show C.size = 27 from by rw [← hC]; exact (M.fits s).size)
  have HCO := Lib.hid (show C.all (·.oneCell') = true from by rw [← hC]; exact (M.fits s).all)
  obtain ⟨w2, hw2⟩ : ∃ w2, (w.alloc (.cells C 35)).alloc (.cells z27 35) = w2 := ⟨_, rfl⟩
  obtain ⟨hrw, hz⟩ := h.begin z27 35
  rw [hC, hw2] at hrw hz
  unfold z27 at hw2
  have HW := Lib.hid hw2
  have HRW := Lib.hid hrw
  have HZ := Lib.hid hz
  have HBX := Lib.hid (show w2.heap[w.heap.size]? = some (.cells C 35 (0, 0)) from by rw [← hC]; exact hrw.box)
  have HC := Lib.hid hC
  have HB2 := Lib.hid hrw.below
  rw [hC]
  have HRV := Lib.hid (show RV w M M s K (M.rc s) w2 from ⟨hrw.box, hz, hrw.is, hrw.below, fun k hk => .inl hk, h.lt⟩)
  obtain ⟨S, hS⟩ : ∃ S, s.look true k = S := ⟨_, rfl⟩
  obtain ⟨ok, hok⟩ : ∃ ok, s.has true k = ok := ⟨_, rfl⟩
  obtain ⟨n', hn'⟩ : ∃ n', s.n.deliver 0 1 k = n' := ⟨_, rfl⟩
  have hlk : s.n.look 0 1 k = S ∧ s.n.isAt 0 1 k = ok := ⟨hS, hok⟩
  have HLO := Lib.hid (show s.lose true k = { s with n := n' } from by rw [← hn']; rfl)
  have HNO := Lib.hid (show ok = false → n' = s.n from fun e => by rw [← hn']; unfold NS.deliver; rw [if_neg (by rw [hlk.2, e]; decide)])
  have HSZ := Lib.hid (show S.size ≤ maxLen from by
    have : (s.look true k).size ≤ 100 := hsh.look _ _ _
    rw [hS] at this
    unfold maxLen; omega)
  have HDEF := Lib.hid (show s.frameB true k = (ok && decide ((Frame.why S.data.toList).2 = 0)) ∧ s.frame true k = Frame.get S.data.toList from by
    unfold PS.frameB PS.frame; rw [hS, hok]; exact ⟨rfl, rfl⟩)
  obtain ⟨N0, hN0⟩ : ∃ N0, (M.net s.n).toArray = N0 := ⟨_, rfl⟩
  have hbxr := hrw.box.n hfits
  have hnet := hrw.is.net
  rw [hN0] at hnet
  have hcall := Net.ref_deliver hnet 0 1 k (by omega)
  rw [hlk.1, hlk.2, hn'] at hcall
  have HCALL := Lib.hid hcall
  have HN0 := Lib.hid hN0
  have HBXN := Lib.hid (show w2.rangeAt w.heap.size 24 (M.net s.n) from hbxr)
  have HF := Lib.hid hfits
  have HLEN := Lib.hid hlen
  have HG := Lib.hid hg
  have hw1 : IntKind.i64.wrap (1 - 1) = 0 := by decide
  clear hC hw2 hrw hz h hfits hbxr hnet hcall hN0 hlen hS hok hlk hg hsh hn'
  go_enter Tryz.func15, Tryz.ntmps15
  go_upto_region 1 with fail
  rw [HW.out]
  go_wp2_with (refine wpList_load_mid rfl 33 _ rfl w.heap.size 24 rfl (M.net s.n) _ HBXN.out Tryz.underlying33 rfl infoN ?_; rw [HN0.out])
  refine (HCALL.out).mono ?_
  rintro e w3 ⟨v', W', c', ws', G', rfl, hn3, hl3, hG3, hb3⟩
  obtain ⟨N1, hN1⟩ : ∃ N1, ((M.setN G' W' c' ws').net n').toArray = N1 := ⟨_, rfl⟩
  have hv := hn3.v
  rw [show v' = .agg N1 from by rw [hv, ← hN1]; rfl] at hn3 ⊢
  have HNS := Lib.hid (show N1.size = 3 from by rw [← hN1]; rfl)
  have HN1O := Lib.hid (show N1.all (·.oneCell') = true from by rw [← hN1]; simp [RM.net, Value.oneCell'])
  have HN1 := Lib.hid hN1
  have HRV0 := Lib.hid (HRV.out.after hb3)
  have HRV3 := Lib.hid (HRV0.out.setN hn3 (J := K + 1) (by have := HLEN.out; omega) (fun j hj => (hG3 j hj).imp id fun h => Nat.le_trans HRV.out.lt h))
  clear hn3 hl3 hG3 hb3 hN1 hv
  cases ok
  · have HE := Lib.hid (show s.come true k = s ∧ s.comeS true k = ⟨#[]⟩ ∧ s.comeB true k = false from by
      have hfr : s.frameB true k = false := by rw [HDEF.out.1]; rfl
      unfold PS.come PS.comeS PS.comeB; rw [hfr, HLO.out, HNO.out rfl]; exact ⟨rfl, rfl, rfl⟩)
    go_wp2_with (first | (refine wpList_load_row rfl 35 _ rfl w.heap.size rfl 35 C (0, 0) _ HBX5.out Tryz.underlying35 rfl (by rw [HCS.out]; exact infoP) ?_) | (refine wpList_store_all rfl 35 _ _ rfl (w.heap.size + 1) z27 C 35 rfl rfl HZ5.out (by rw [HCS.out]; rfl) (by rw [HCS.out]; exact infoP) HCO.out ?_; intro w9 hq9 hk9) | (refine wpList_store_all rfl 33 _ _ rfl w3.heap.size zero3 N1 33 rfl rfl (heap_alloc_new w3 _) (by rw [HNS.out]; rfl) (by rw [HNS.out]; exact infoN) HN1O.out ?_; intro w5 hq5 hk5; have hb5 : Below w3.heap.size w3 w5 := ((Below.refl _ _).alloc (Nat.le_refl _) _).trans (hk5.below (by simp) (by simp)); have HRV5 := Lib.hid (HRV0.out.after hb5); have HBX5 := Lib.hid (show w5.heap[w.heap.size]? = some (.cells C 35 (0, 0)) from by rw [← HC.out]; exact HRV5.out.box); have HZ5 := Lib.hid HRV5.out.res; clear hq5 hk5 hb5))
    refine ret_row3 Tryz.results15 (w.heap.size + 1) _ _ _ (.string ⟨#[]⟩) (.bool false) rfl hq9 rfl rfl Tryz.underlying35 rfl (by rw [HCS.out]; exact infoP) rfl ?_
    rw [HE.out.1, HE.out.2.1, HE.out.2.2]
    exact RV.said (f := fun v => .tuple #[v, .string ⟨#[]⟩, .bool false]) ⟨HRV5.out.box, HRV5.out.res, HRV5.out.is.more (Nat.le_succ _), HRV5.out.below, HRV5.out.new, HRV5.out.old⟩ HC.out hk9
  · obtain ⟨f, hf⟩ : ∃ f, Frame.get S.data.toList = f := ⟨_, rfl⟩
    obtain ⟨E, hE⟩ : ∃ E, (Frame.why S.data.toList).2 = E := ⟨_, rfl⟩
    obtain ⟨a0, ha0⟩ : ∃ a0, (Frame.why S.data.toList).1 = a0 := ⟨_, rfl⟩
    have HFE := Lib.hid (And.intro hf (And.intro hE ha0))
    clear hf hE ha0
    obtain ⟨R6, hR6⟩ : ∃ Q9, (RM.rc (M.setN G' W' c' ws') ({ s with n := n' })).all = Q9 := ⟨_, rfl⟩
    have HS6 := Lib.hid (show R6.size = 27 from by rw [← hR6]; exact (RM.fits (M.setN G' W' c' ws') ({ s with n := n' })).size)
    have HO6 := Lib.hid (show R6.all (·.oneCell') = true from by rw [← hR6]; exact (RM.fits (M.setN G' W' c' ws') ({ s with n := n' })).all)
    have HR6 := Lib.hid hR6
    clear hR6
    go_wp2_with (first | (refine wpList_load_row rfl 33 _ rfl w3.heap.size rfl 33 N1 (0, 0) _ HQ5.out Tryz.underlying33 rfl (by rw [HNS.out]; exact infoN) ?_) | (refine wpList_store_all rfl 33 _ _ rfl w3.heap.size zero3 N1 33 rfl rfl (heap_alloc_new w3 _) (by rw [HNS.out]; rfl) (by rw [HNS.out]; exact infoN) HN1O.out ?_; intro w5 hq5 hk5; have hb5 : Below w3.heap.size w3 w5 := ((Below.refl _ _).alloc (Nat.le_refl _) _).trans (hk5.below (by simp) (by simp)); have HRV5 := Lib.hid (HRV3.out.after hb5); have HQ5 := Lib.hid hq5; have HS5 := Lib.hid (HRV5.out.box.setN HF.out (x := N1.toList) (by simpa using HNS.out)); clear hq5 hk5 hb5) | (refine wpList_store_mid rfl 33 _ _ rfl w.heap.size 24 N1 rfl rfl (by have h := HS5.out.1; rw [Array.length_toList, HNS.out] at h; rw [HNS.out]; exact h) (by rw [HNS.out]; exact infoN) HN1O.out ?_; have hbx6 := HS5.out.2.1; have hk6 := HS5.out.2.2; generalize w5.setCells w.heap.size 24 N1.toList = w6 at hbx6 hk6 ⊢; have HRV6 := Lib.hid (HRV5.out.put (r' := RM.rc (M.setN G' W' c' ws') { s with n := n' }) (by have e : ({ M.rc s with n := N1.toList } : RC) = RM.rc (M.setN G' W' c' ws') { s with n := n' } := (by rw [← HN1.out]; rfl); rw [← e]; exact hbx6) hk6); clear hbx6 hk6))
    refine (Frame.refGet_is S f a0 E _ HSZ.out HFE.out.1.symm HFE.out.2.2.symm HFE.out.2.1.symm).mono ?_
    rintro e w7 ⟨rfl, hb7⟩
    rw [show f.val = .agg #[.int .i64 f.kind, .int .i64 f.epoch, .int .u64 f.seq, .int .u64 f.ack, .string f.body] from rfl]
    have HX := Lib.hid (HRV6.out.after hb7)
    clear hb7
    obtain ⟨w8, hw8, HRV8, HBX8, HZ8, HF8⟩ : ∃ w8, w8 = w7.alloc (.cells #[.int .i64 f.kind, .int .i64 f.epoch, .int .u64 f.seq, .int .u64 f.ack, .string f.body] 83) ∧ Hid (RV w M (M.setN G' W' c' ws') { s with n := n' } (K + 1) (RM.rc (M.setN G' W' c' ws') { s with n := n' }) w8) ∧ Hid (w8.heap[w.heap.size]? = some (.cells R6 35 (0, 0))) ∧ Hid (w8.heap[w.heap.size + 1]? = some (.cells z27 35 (0, 0))) ∧ Hid (w8.heap[w7.heap.size]? = some (.cells #[.int .i64 f.kind, .int .i64 f.epoch, .int .u64 f.seq, .int .u64 f.ack, .string f.body] 83 (0, 0))) := by
      have k := HX.out.after (v' := w7.alloc (.cells #[.int .i64 f.kind, .int .i64 f.epoch, .int .u64 f.seq, .int .u64 f.ack, .string f.body] 83)) ((Below.refl _ _).alloc (Nat.le_refl _) _)
      exact ⟨_, rfl, Lib.hid k, Lib.hid (by rw [← HR6.out]; exact k.box), Lib.hid k.res, Lib.hid (heap_alloc_new w7 _)⟩
    by_cases hE : E = 0
    · have he : (E != 0) = false := by simp [hE]
      have hfr : s.frameB true k = true := by rw [HDEF.out.1, HFE.out.2.1, hE]; rfl
      have hsf : s.frame true k = f := by rw [HDEF.out.2, HFE.out.1]
      obtain ⟨td, htd⟩ : ∃ td, (s.e true).told f = td := ⟨_, rfl⟩
      obtain ⟨nx, hnx⟩ : ∃ nx, (s.e true).isNext f = nx := ⟨_, rfl⟩
      obtain ⟨X, hX⟩ : ∃ X, (s.e true).taken f = X := ⟨_, rfl⟩
      have HXOK := Lib.hid (show X.Ok from by rw [← hX]; exact (HRV8.out.is.ok true).taken f)
      have HTD := Lib.hid (And.intro htd (And.intro hnx hX))
      have HE := Lib.hid (show s.come true k = (s.lose true k).take true f ∧ s.comeS true k = td ∧ s.comeB true k = nx from by
        unfold PS.come PS.comeS PS.comeB; rw [hfr, hsf, htd, hnx]; exact ⟨rfl, rfl, rfl⟩)
      obtain ⟨E0, hE0⟩ : ∃ E0, ends (s.e true) (M.A true) (M.c true) = E0 := ⟨_, rfl⟩
      have HEND := Lib.hid (show ∀ v, Calls Tryz.prog 26 #[.agg R6, .int .i64 1] v fun e v' => e = .returned (.agg E0) ∧ Below v.heap.size v v' from fun v => by
        have := ref_end (RM.rc (M.setN G' W' c' ws') { s with n := n' }) (RM.fits _ _) 1 E0 (by rw [← hE0]; rfl) v
        rwa [HR6.out] at this)
      have HTK := Lib.hid (show ∀ v, Below w8.heap.size w8 v → Calls Tryz.prog 52 #[.agg E0, .agg #[.int .i64 f.kind, .int .i64 f.epoch, .int .u64 f.seq, .int .u64 f.ack, .string f.body]] v fun e v' => ∃ A5 c5, e = .returned (.tuple #[.agg (ends X A5 c5), .string td, .bool nx]) ∧ Low v' (M.L true) X A5 c5 ∧ Below v.heap.size v v' from fun v hv => by
        have := Link.ref_take (((HRV8.out.is.after hv).low true)) (HRV8.out.is.ok true) f.kind f.epoch f.seq f.ack f.body (by rw [← HFE.out.1]; exact get_ack _)
        rw [show ends (({ s with n := n' } : PS).e true) ((M.setN G' W' c' ws').A true) ((M.setN G' W' c' ws').c true) = E0 from hE0] at this
        refine this.mono ?_
        rintro e v' ⟨A5, c5, rfl, h1, h2⟩
        refine ⟨A5, c5, ?_, ?_, h2⟩
        · rw [← hX, ← htd, ← hnx]
        · rw [← hX]; exact h1)
      clear hE hfr hsf htd hnx hE0 hX
      go_wp2_with fail
      rw [← hw8]
      refine' wp_flow [only 0 (.agg R6), only 1 _, only 2 (.agg E0), only 3 (.agg #[.int .i64 f.kind, .int .i64 f.epoch, .int .u64 f.seq, .int .u64 f.ack, .string f.body]), own 4 (fun y v => ∃ A5 c5, y = .tuple #[.agg (ends X A5 c5), .string td, .bool nx] ∧ Low v (M.L true) X A5 c5), own 5 (fun y v => ∃ A5 c5, y = .tuple #[.agg (ends X A5 c5), .string td, .bool nx] ∧ Low v (M.L true) X A5 c5), own 6 (fun y v => ∃ A5 c5, y = .agg (ends X A5 c5) ∧ Low v (M.L true) X A5 c5), only 7 (.string td), only 8 (.bool nx), own 9 (fun y v => ∃ g, y = .pointer (some ⟨g, 0, none⟩) ∧ w8.heap.size ≤ g ∧ v.heap[g]? = some (.cells zero11 30 (0, 0))), (fun us v => ∃ A5 c5 g, us 6 = .agg (ends X A5 c5) ∧ us 9 = .pointer (some ⟨g, 0, none⟩) ∧ w8.heap.size ≤ g ∧ v.heap[g]? = some (.cells (ends X A5 c5) 30 (0, 0)) ∧ Low v (M.L true) X A5 c5), only 11 _, only 12 _] (fun v => Below w8.heap.size w8 v) [[], [], [0, 1], [], [2, 3], [4], [5], [5], [5], [], [6, 9], [7], [8]] [[], [], [], [], [], [4], [], [], [], [], [6, 9], [], []] [[], [], [], [], [], [], [], [], [], [], [], [], []] [[9], [9], [9], [9], [9], [9], [5, 9], [5, 6, 9, 10], [5, 6, 9, 10], [4, 5, 6], [5], [5, 10], [5, 10]] [4, 5, 6, 9, 10] [0, 0, 3, 0, 15, 31, 63, 63, 63, 0, 639, 1791, 4095] _ (fun us => ?hfr) (by kernel_rfl) (by kernel_rfl) (by kernel_rfl) ⟨only_still _, only_still _, only_still _, only_still _, trivial, trivial, trivial, only_still _, only_still _, trivial, trivial, only_still _, only_still _, trivial⟩ (below_drewN (Below.refl _ _) 1) (by simp) (trivial) ?hst ?hla
      case hfr => (simp only [List.cons_append, List.nil_append, putAll, Act.put, List.setIfInBounds_toArray, List.set_cons_zero, List.set_cons_succ, Nat.reduceAdd]; rfl)
      case hst =>
        refine ⟨?_, ?_, ?_, ?_, ?_, ?_, ?_, ?_, ?_, ?_, ?_, ?_, ?_, trivial⟩
        · intro us v hR hn ho K hK
          clear ho
          have hbx : v.heap[w.heap.size]? = some (.cells R6 35 (0, 0)) := (hR.block _ (lt_of_block HBX8.out)).trans HBX8.out; have hfx : v.heap[w7.heap.size]? = some (.cells #[.int .i64 f.kind, .int .i64 f.epoch, .int .u64 f.seq, .int .u64 f.ack, .string f.body] 83 (0, 0)) := (hR.block _ (lt_of_block HF8.out)).trans HF8.out; have z0 := cell_of_block hfx 0; have z1 := cell_of_block hfx 1; have z2 := cell_of_block hfx 2; have z3 := cell_of_block hfx 3; have z4 := cell_of_block hfx 4; simp at z0 z1 z2 z3 z4
          have hcs : (Tryz.prog.info? 35).map (·.size) = some R6.size := by rw [HS6.out]; exact infoP
          rw [if_pos (by rfl)]
          refine wp_load_row 35 _ (by rfl) w.heap.size (by rfl) 35 R6 (0, 0) _ hbx Tryz.underlying35 rfl hcs ?_
          refine hK _ _ _ (by simp only [Act.put, List.setIfInBounds_toArray, List.set_cons_zero, List.set_cons_succ, Nat.reduceAdd] <;> rfl) ?_ hR ⟨fun h => h, trivial⟩
          exact only_mk (v := v) rfl
        · intro us v hR hn ho K hK
          clear ho
          have hbx : v.heap[w.heap.size]? = some (.cells R6 35 (0, 0)) := (hR.block _ (lt_of_block HBX8.out)).trans HBX8.out; have hfx : v.heap[w7.heap.size]? = some (.cells #[.int .i64 f.kind, .int .i64 f.epoch, .int .u64 f.seq, .int .u64 f.ack, .string f.body] 83 (0, 0)) := (hR.block _ (lt_of_block HF8.out)).trans HF8.out; have z0 := cell_of_block hfx 0; have z1 := cell_of_block hfx 1; have z2 := cell_of_block hfx 2; have z3 := cell_of_block hfx 3; have z4 := cell_of_block hfx 4; simp at z0 z1 z2 z3 z4
          rw [if_pos (by rfl)]
          go_simp
          refine hK _ _ _ (by simp only [Act.put, List.setIfInBounds_toArray, List.set_cons_zero, List.set_cons_succ, Nat.reduceAdd] <;> rfl) ?_ hR ⟨fun h => h, trivial⟩
          refine only_mk (v := v) ?_
          with_reducible rfl
        · intro us v hR hn ho K hK
          obtain ⟨n0, n1, -⟩ := hn
          have n0 : us 0 = _ := n0
          have n1 : us 1 = _ := n1
          clear ho
          have hbx : v.heap[w.heap.size]? = some (.cells R6 35 (0, 0)) := (hR.block _ (lt_of_block HBX8.out)).trans HBX8.out; have hfx : v.heap[w7.heap.size]? = some (.cells #[.int .i64 f.kind, .int .i64 f.epoch, .int .u64 f.seq, .int .u64 f.ack, .string f.body] 83 (0, 0)) := (hR.block _ (lt_of_block HF8.out)).trans HF8.out; have z0 := cell_of_block hfx 0; have z1 := cell_of_block hfx 1; have z2 := cell_of_block hfx 2; have z3 := cell_of_block hfx 3; have z4 := cell_of_block hfx 4; simp at z0 z1 z2 z3 z4
          rw [if_pos (by rfl)]
          clear hbx hfx z0 z1 z2 z3 z4
          go_simp
          refine (HEND.out v).mono ?_
          rintro e v' ⟨rfl, hb'⟩
          dsimp only
          refine hK _ _ _ (by simp only [Act.put, List.setIfInBounds_toArray, List.set_cons_zero, List.set_cons_succ, Nat.reduceAdd, n0, n1] <;> rfl) ?_ (hR.trans (hb'.mono hR.size)) ⟨fun ⟨g, h1, h2, h3⟩ => ⟨g, h1, h2, (hb'.block _ (lt_of_block h3)).trans h3⟩, trivial⟩
          exact only_mk (v := v') rfl
        · intro us v hR hn ho K hK
          clear ho
          have hbx : v.heap[w.heap.size]? = some (.cells R6 35 (0, 0)) := (hR.block _ (lt_of_block HBX8.out)).trans HBX8.out; have hfx : v.heap[w7.heap.size]? = some (.cells #[.int .i64 f.kind, .int .i64 f.epoch, .int .u64 f.seq, .int .u64 f.ack, .string f.body] 83 (0, 0)) := (hR.block _ (lt_of_block HF8.out)).trans HF8.out; have z0 := cell_of_block hfx 0; have z1 := cell_of_block hfx 1; have z2 := cell_of_block hfx 2; have z3 := cell_of_block hfx 3; have z4 := cell_of_block hfx 4; simp at z0 z1 z2 z3 z4
          rw [if_pos (by rfl)]
          go_simp
          refine hK _ _ _ (by simp only [Act.put, List.setIfInBounds_toArray, List.set_cons_zero, List.set_cons_succ, Nat.reduceAdd] <;> rfl) ?_ hR ⟨fun h => h, trivial⟩
          refine only_mk (v := v) ?_
          with_reducible rfl
        · intro us v hR hn ho K hK
          obtain ⟨n2, n3, -⟩ := hn
          have n2 : us 2 = _ := n2
          have n3 : us 3 = _ := n3
          clear ho
          have hbx : v.heap[w.heap.size]? = some (.cells R6 35 (0, 0)) := (hR.block _ (lt_of_block HBX8.out)).trans HBX8.out; have hfx : v.heap[w7.heap.size]? = some (.cells #[.int .i64 f.kind, .int .i64 f.epoch, .int .u64 f.seq, .int .u64 f.ack, .string f.body] 83 (0, 0)) := (hR.block _ (lt_of_block HF8.out)).trans HF8.out; have z0 := cell_of_block hfx 0; have z1 := cell_of_block hfx 1; have z2 := cell_of_block hfx 2; have z3 := cell_of_block hfx 3; have z4 := cell_of_block hfx 4; simp at z0 z1 z2 z3 z4
          rw [if_pos (by rfl)]
          clear hbx hfx z0 z1 z2 z3 z4
          go_simp
          refine (HTK.out v hR).mono ?_
          rintro e v' ⟨A5, c5, rfl, hl5, hb5⟩
          dsimp only
          exact hK _ _ _ (by simp only [Act.put, List.setIfInBounds_toArray, List.set_cons_zero, List.set_cons_succ, Nat.reduceAdd, n2, n3] <;> rfl) ⟨A5, c5, rfl, hl5⟩ (hR.trans (hb5.mono hR.size)) ⟨fun ⟨g, h1, h2, h3⟩ => ⟨g, h1, h2, (hb5.block _ (lt_of_block h3)).trans h3⟩, trivial⟩
        · intro us v hR hn ho K hK
          obtain ⟨n4, -⟩ := hn
          clear ho
          have hbx : v.heap[w.heap.size]? = some (.cells R6 35 (0, 0)) := (hR.block _ (lt_of_block HBX8.out)).trans HBX8.out; have hfx : v.heap[w7.heap.size]? = some (.cells #[.int .i64 f.kind, .int .i64 f.epoch, .int .u64 f.seq, .int .u64 f.ack, .string f.body] 83 (0, 0)) := (hR.block _ (lt_of_block HF8.out)).trans HF8.out; have z0 := cell_of_block hfx 0; have z1 := cell_of_block hfx 1; have z2 := cell_of_block hfx 2; have z3 := cell_of_block hfx 3; have z4 := cell_of_block hfx 4; simp at z0 z1 z2 z3 z4
          obtain ⟨A5, c5, e4, k4⟩ := n4
          rw [if_pos (by rfl)]
          go_simp
          refine hK _ _ _ (by simp only [Act.put, List.setIfInBounds_toArray, List.set_cons_zero, List.set_cons_succ, Nat.reduceAdd, e4] <;> rfl) ⟨A5, c5, rfl, k4⟩ hR ⟨fun h => h, trivial⟩
        · intro us v hR hn ho K hK
          obtain ⟨n5, -⟩ := hn
          clear ho
          have hbx : v.heap[w.heap.size]? = some (.cells R6 35 (0, 0)) := (hR.block _ (lt_of_block HBX8.out)).trans HBX8.out; have hfx : v.heap[w7.heap.size]? = some (.cells #[.int .i64 f.kind, .int .i64 f.epoch, .int .u64 f.seq, .int .u64 f.ack, .string f.body] 83 (0, 0)) := (hR.block _ (lt_of_block HF8.out)).trans HF8.out; have z0 := cell_of_block hfx 0; have z1 := cell_of_block hfx 1; have z2 := cell_of_block hfx 2; have z3 := cell_of_block hfx 3; have z4 := cell_of_block hfx 4; simp at z0 z1 z2 z3 z4
          obtain ⟨A5, c5, e5, k5⟩ := n5
          rw [if_pos (by rfl)]
          go_simp
          refine hK _ _ _ (by simp only [Act.put, List.setIfInBounds_toArray, List.set_cons_zero, List.set_cons_succ, Nat.reduceAdd, e5] <;> rfl) ⟨A5, c5, rfl, k5⟩ hR ⟨fun h => h, fun h => h, trivial⟩
        · intro us v hR hn ho K hK
          obtain ⟨n5, -⟩ := hn
          clear ho
          have hbx : v.heap[w.heap.size]? = some (.cells R6 35 (0, 0)) := (hR.block _ (lt_of_block HBX8.out)).trans HBX8.out; have hfx : v.heap[w7.heap.size]? = some (.cells #[.int .i64 f.kind, .int .i64 f.epoch, .int .u64 f.seq, .int .u64 f.ack, .string f.body] 83 (0, 0)) := (hR.block _ (lt_of_block HF8.out)).trans HF8.out; have z0 := cell_of_block hfx 0; have z1 := cell_of_block hfx 1; have z2 := cell_of_block hfx 2; have z3 := cell_of_block hfx 3; have z4 := cell_of_block hfx 4; simp at z0 z1 z2 z3 z4
          obtain ⟨A5, c5, e5, k5⟩ := n5
          rw [if_pos (by rfl)]
          go_simp
          refine hK _ _ _ (by simp only [Act.put, List.setIfInBounds_toArray, List.set_cons_zero, List.set_cons_succ, Nat.reduceAdd, e5] <;> rfl) (only_mk (v := v) rfl) hR ⟨fun h => h, fun h => h, fun h => h, fun h => h, trivial⟩
        · intro us v hR hn ho K hK
          obtain ⟨n5, -⟩ := hn
          clear ho
          have hbx : v.heap[w.heap.size]? = some (.cells R6 35 (0, 0)) := (hR.block _ (lt_of_block HBX8.out)).trans HBX8.out; have hfx : v.heap[w7.heap.size]? = some (.cells #[.int .i64 f.kind, .int .i64 f.epoch, .int .u64 f.seq, .int .u64 f.ack, .string f.body] 83 (0, 0)) := (hR.block _ (lt_of_block HF8.out)).trans HF8.out; have z0 := cell_of_block hfx 0; have z1 := cell_of_block hfx 1; have z2 := cell_of_block hfx 2; have z3 := cell_of_block hfx 3; have z4 := cell_of_block hfx 4; simp at z0 z1 z2 z3 z4
          obtain ⟨A5, c5, e5, k5⟩ := n5
          rw [if_pos (by rfl)]
          go_simp
          refine hK _ _ _ (by simp only [Act.put, List.setIfInBounds_toArray, List.set_cons_zero, List.set_cons_succ, Nat.reduceAdd, e5] <;> rfl) (only_mk (v := v) rfl) hR ⟨fun h => h, fun h => h, fun h => h, fun h => h, trivial⟩
        · intro us v hR hn ho K hK
          clear ho
          have hbx : v.heap[w.heap.size]? = some (.cells R6 35 (0, 0)) := (hR.block _ (lt_of_block HBX8.out)).trans HBX8.out; have hfx : v.heap[w7.heap.size]? = some (.cells #[.int .i64 f.kind, .int .i64 f.epoch, .int .u64 f.seq, .int .u64 f.ack, .string f.body] 83 (0, 0)) := (hR.block _ (lt_of_block HF8.out)).trans HF8.out; have z0 := cell_of_block hfx 0; have z1 := cell_of_block hfx 1; have z2 := cell_of_block hfx 2; have z3 := cell_of_block hfx 3; have z4 := cell_of_block hfx 4; simp at z0 z1 z2 z3 z4
          rw [if_pos (by rfl)]
          go_simp
          exact hK _ _ _ (by simp only [Act.put, List.setIfInBounds_toArray, List.set_cons_zero, List.set_cons_succ, Nat.reduceAdd] <;> rfl) ⟨v.heap.size, rfl, hR.size, heap_alloc_new v _⟩ (hR.alloc hR.size _) ⟨fun ⟨A5, c5, h1, h2⟩ => ⟨A5, c5, h1, h2.alloc _⟩, fun ⟨A5, c5, h1, h2⟩ => ⟨A5, c5, h1, h2.alloc _⟩, fun ⟨A5, c5, h1, h2⟩ => ⟨A5, c5, h1, h2.alloc _⟩, trivial⟩
        · intro us v hR hn ho K hK
          obtain ⟨n6, n9, -⟩ := hn
          clear ho
          have hbx : v.heap[w.heap.size]? = some (.cells R6 35 (0, 0)) := (hR.block _ (lt_of_block HBX8.out)).trans HBX8.out; have hfx : v.heap[w7.heap.size]? = some (.cells #[.int .i64 f.kind, .int .i64 f.epoch, .int .u64 f.seq, .int .u64 f.ack, .string f.body] 83 (0, 0)) := (hR.block _ (lt_of_block HF8.out)).trans HF8.out; have z0 := cell_of_block hfx 0; have z1 := cell_of_block hfx 1; have z2 := cell_of_block hfx 2; have z3 := cell_of_block hfx 3; have z4 := cell_of_block hfx 4; simp at z0 z1 z2 z3 z4
          obtain ⟨A5, c5, e6, k6⟩ := n6
          obtain ⟨g1, e9, hg1, hg2⟩ := n9
          rw [if_pos (by rfl)]
          refine wp_store_all 30 (.tmp 15) (.tmp 57) (by rfl) g1 _ _ _ e9 e6 hg2 rfl (by kernel_rfl) (by simp [ends, Value.oneCell']) ?_
          intro v' hq hk
          exact hK undef _ _ (by simp only [Act.put, List.setIfInBounds_toArray, List.set_cons_zero, List.set_cons_succ, Nat.reduceAdd, e6, e9] <;> rfl) ⟨A5, c5, g1, e6, e9, hg1, hq, low_struck k6 hg2 hk⟩ (hR.trans (hk.below hR.size (by simp; exact hg1))) ⟨fun ⟨A5, c5, h1, h2⟩ => ⟨A5, c5, h1, low_struck h2 hg2 hk⟩, trivial⟩
        · intro us v hR hn ho K hK
          obtain ⟨n7, -⟩ := hn
          have n7 : us 7 = _ := n7
          clear ho
          have hbx : v.heap[w.heap.size]? = some (.cells R6 35 (0, 0)) := (hR.block _ (lt_of_block HBX8.out)).trans HBX8.out; have hfx : v.heap[w7.heap.size]? = some (.cells #[.int .i64 f.kind, .int .i64 f.epoch, .int .u64 f.seq, .int .u64 f.ack, .string f.body] 83 (0, 0)) := (hR.block _ (lt_of_block HF8.out)).trans HF8.out; have z0 := cell_of_block hfx 0; have z1 := cell_of_block hfx 1; have z2 := cell_of_block hfx 2; have z3 := cell_of_block hfx 3; have z4 := cell_of_block hfx 4; simp at z0 z1 z2 z3 z4
          rw [if_pos (by rfl)]
          go_simp
          refine hK _ _ _ (by simp only [Act.put, List.setIfInBounds_toArray, List.set_cons_zero, List.set_cons_succ, Nat.reduceAdd, n7] <;> rfl) ?_ hR ⟨fun h => h, fun h => h, trivial⟩
          refine only_mk (v := v) ?_
          with_reducible rfl
        · intro us v hR hn ho K hK
          obtain ⟨n8, -⟩ := hn
          have n8 : us 8 = _ := n8
          clear ho
          have hbx : v.heap[w.heap.size]? = some (.cells R6 35 (0, 0)) := (hR.block _ (lt_of_block HBX8.out)).trans HBX8.out; have hfx : v.heap[w7.heap.size]? = some (.cells #[.int .i64 f.kind, .int .i64 f.epoch, .int .u64 f.seq, .int .u64 f.ack, .string f.body] 83 (0, 0)) := (hR.block _ (lt_of_block HF8.out)).trans HF8.out; have z0 := cell_of_block hfx 0; have z1 := cell_of_block hfx 1; have z2 := cell_of_block hfx 2; have z3 := cell_of_block hfx 3; have z4 := cell_of_block hfx 4; simp at z0 z1 z2 z3 z4
          rw [if_pos (by rfl)]
          go_simp
          refine hK _ _ _ (by simp only [Act.put, List.setIfInBounds_toArray, List.set_cons_zero, List.set_cons_succ, Nat.reduceAdd, n8] <;> rfl) ?_ hR ⟨fun h => h, fun h => h, trivial⟩
          refine only_mk (v := v) ?_
          with_reducible rfl
      case hla =>
        intro us v hR hl
        obtain ⟨n0, n1, n2, n3, n5, n7, n8, n10, n11, n12, -⟩ := need_last hl [0, 1, 2, 3, 5, 7, 8, 10, 11, 12] (by kernel_rfl)
        have n0 : us 0 = _ := n0
        have n1 : us 1 = _ := n1
        have n2 : us 2 = _ := n2
        have n3 : us 3 = _ := n3
        have n7 : us 7 = _ := n7
        have n8 : us 8 = _ := n8
        have n11 : us 11 = _ := n11
        have n12 : us 12 = _ := n12
        have hbx : v.heap[w.heap.size]? = some (.cells R6 35 (0, 0)) := (hR.block _ (lt_of_block HBX8.out)).trans HBX8.out; have hfx : v.heap[w7.heap.size]? = some (.cells #[.int .i64 f.kind, .int .i64 f.epoch, .int .u64 f.seq, .int .u64 f.ack, .string f.body] 83 (0, 0)) := (hR.block _ (lt_of_block HF8.out)).trans HF8.out; have z0 := cell_of_block hfx 0; have z1 := cell_of_block hfx 1; have z2 := cell_of_block hfx 2; have z3 := cell_of_block hfx 3; have z4 := cell_of_block hfx 4; simp at z0 z1 z2 z3 z4
        simp only [n0, n1, n2, n3, n7, n8, n11, n12]
        clear hl n0 n1 n2 n3 n7 n8 n11 n12
        obtain ⟨A5, c5, g1, e6, e9, hg1, hq1, hl1⟩ := n10
        obtain ⟨G2, hl2, hG2, hG3⟩ := Low.trim hl1
        obtain ⟨E1, hE1⟩ : ∃ E1, ends X A5 c5 = E1 := ⟨_, rfl⟩
        have HES := Lib.hid (show E1.size = 11 from by rw [← hE1]; rfl)
        have HEO := Lib.hid (show E1.all (·.oneCell') = true from by rw [← hE1]; simp [ends, Value.oneCell'])
        rw [hE1] at hq1 e6
        simp only [e6, e9]
        obtain ⟨R7, hR7⟩ : ∃ Q9, (RM.rc ((M.setN G' W' c' ws').setE true A5 c5 G2) ({ ({ s with n := n' } : PS) with e := up s.e true X })).all = Q9 := ⟨_, rfl⟩
        have HS7 := Lib.hid (show R7.size = 27 from by rw [← hR7]; exact (RM.fits ((M.setN G' W' c' ws').setE true A5 c5 G2) ({ ({ s with n := n' } : PS) with e := up s.e true X })).size)
        have HO7 := Lib.hid (show R7.all (·.oneCell') = true from by rw [← hR7]; exact (RM.fits ((M.setN G' W' c' ws').setE true A5 c5 G2) ({ ({ s with n := n' } : PS) with e := up s.e true X })).all)
        have HR7 := Lib.hid hR7
        have hrv9 := HRV8.out.after hR
        have HRV10 := Lib.hid (hrv9.setE true hl2 HXOK.out hG3 (fun j hj => .inl (hG2 j hj)))
        have HWITH := Lib.hid (show Calls Tryz.prog 37 #[.agg R6, .int .i64 1, .agg E1] v fun e v' => e = .returned (.agg R7) ∧ Below v.heap.size v v' from by
          have := ref_with (RM.rc (M.setN G' W' c' ws') { s with n := n' }) (RM.fits _ _) 1 E1.toList (by simpa using HES.out) (fun u hu => (Array.all_eq_true_iff_forall_mem.1 HEO.out) u (by simpa using hu)) R7 (by rw [← hR7, ← hE1]; exact congrArg RC.all (RM.setE_rc (M.setN G' W' c' ws') { s with n := n' } true A5 c5 G2 X)) v
          have hxe : E1.toList.toArray = E1 := by simp
          rwa [HR6.out, hxe] at this)
        have HBX9 := Lib.hid hbx
        have HQ1 := Lib.hid hq1
        clear hR7 hE1 hq1 hl1 hl2 hG2 hG3 e6 e9 hbx hfx z0 z1 z2 z3 z4 hrv9 hR
        go_wp2_with (first | (refine wpList_load_row rfl 35 _ rfl w.heap.size rfl 35 R6 (0, 0) _ HBX9.out Tryz.underlying35 rfl (by rw [HS6.out]; exact infoP) ?_) | (refine wpList_load_row rfl 30 _ rfl g1 rfl 30 E1 (0, 0) _ HQ1.out Tryz.underlying30 rfl (by rw [HES.out]; exact infoE) ?_))
        refine (HWITH.out).mono ?_
        rintro e w10 ⟨rfl, hb10⟩
        have HRV11 := Lib.hid (HRV10.out.after hb10)
        have HBX11 := Lib.hid ((hb10.block _ (lt_of_block HBX9.out)).trans HBX9.out)
        clear hb10
        cases nx
        · have HE2 := Lib.hid (show s.come true k = { ({ s with n := n' } : PS) with e := up s.e true X } from by
            rw [HE.out.1, HLO.out]
            unfold PS.take
            rw [show (({ s with n := n' } : PS).e true).isNext f = false from HTD.out.2.1, show (({ s with n := n' } : PS).e true).taken f = X from HTD.out.2.2]
            simp only [Bool.false_eq_true, if_false, up_id])
          go_wp2_with (first | (refine wpList_store_all rfl 35 _ _ rfl w.heap.size R6 R7 35 rfl rfl HBX11.out (by rw [HS6.out, HS7.out]) (by rw [HS7.out]; exact infoP) HO7.out ?_; intro w12 hq12 hk12; have HRV12 := Lib.hid (HRV11.out.put (r' := RM.rc ((M.setN G' W' c' ws').setE true A5 c5 G2) { ({ s with n := n' } : PS) with e := up s.e true X }) (by unfold RBox; rw [HR7.out]; exact hq12) hk12); have HBX12 := Lib.hid hq12; have HZ12 := Lib.hid HRV12.out.res; clear hq12 hk12) | (refine wpList_load_row rfl 35 _ rfl w.heap.size rfl 35 R7 (0, 0) _ HBX12.out Tryz.underlying35 rfl (by rw [HS7.out]; exact infoP) ?_) | (refine wpList_store_all rfl 35 _ _ rfl (w.heap.size + 1) z27 R7 35 rfl rfl HZ12.out (by rw [HS7.out]; rfl) (by rw [HS7.out]; exact infoP) HO7.out ?_; intro w9 hq9 hk9))
          refine ret_row3 Tryz.results15 (w.heap.size + 1) _ _ _ (.string td) (.bool false) rfl hq9 rfl rfl Tryz.underlying35 rfl (by rw [HS7.out]; exact infoP) rfl ?_
          rw [HE2.out, HE.out.2.1, HE.out.2.2]
          exact RV.said (f := fun v => .tuple #[v, .string td, .bool false]) HRV12.out HR7.out hk9
        · obtain ⟨ys, hys⟩ : ∃ ys, s.g true ++ [td] = ys := ⟨_, rfl⟩
          have HYS := Lib.hid hys
          have HYL := Lib.hid (show (s.g true).length + 1 = ys.length from by rw [← hys]; simp)
          have HE2 := Lib.hid (show s.come true k = { ({ ({ s with n := n' } : PS) with e := up s.e true X } : PS) with g := up s.g true ys } from by
            rw [HE.out.1, HLO.out]
            unfold PS.take
            rw [show (({ s with n := n' } : PS).e true).isNext f = true from HTD.out.2.1, show (({ s with n := n' } : PS).e true).taken f = X from HTD.out.2.2, if_pos rfl, show (({ s with n := n' } : PS).e true).told f = td from HTD.out.1]
            rw [← HYS.out])
          clear hys
          obtain ⟨xs, hxs⟩ : ∃ xs, s.g true = xs := ⟨_, rfl⟩
          have HXS := Lib.hid hxs
          have hgl := HG.out
          rw [hxs] at hgl
          have HYX := Lib.hid (show xs.length + 1 = ys.length ∧ xs.map Value.string ++ [.string td] = ys.map .string from by rw [← hxs, ← HYS.out]; simp)
          clear hxs
          go_wp2_with (first | (refine wpList_store_all rfl 35 _ _ rfl w.heap.size R6 R7 35 rfl rfl HBX11.out (by rw [HS6.out, HS7.out]) (by rw [HS7.out]; exact infoP) HO7.out ?_; intro w12 hq12 hk12; have hrv12 := HRV11.out.put (r' := RM.rc ((M.setN G' W' c' ws').setE true A5 c5 G2) { ({ s with n := n' } : PS) with e := up s.e true X }) (by unfold RBox; rw [HR7.out]; exact hq12) hk12; have HRV12 := Lib.hid hrv12; have yg : (w12.alloc (.cells #[] 9)).cell? ⟨w.heap.size, 23, none⟩ = some (.slice (M.g true).A xs.length (M.g true).c) := (by have := RBox.gb hrv12.box (RM.fits _ _); rw [← HXS.out]; exact (World.cell?_alloc_lt _ _ _ (by exact lt_of_block hrv12.box)).trans this); have HBX12 := Lib.hid hq12; clear hq12 hk12 hrv12; have HB0 := Lib.hid (show Below w12.heap.size w12 (w12.alloc (.cells #[] 9)) from (Below.refl _ _).alloc (Nat.le_refl _) _); have HV0 := Lib.hid (show Vec (w12.alloc (.cells #[] 9)) (M.g true).F 1 (M.g true).A xs.length (M.g true).c (xs.map .string) from by (skip; have := HRV12.out.is.got true; rw [← HXS.out]; exact this.after HB0.out))) | (at_builtin; (refine wpList_append_vec _ (by rfl) _ _ _ _ (by rfl) 9 i0 _ 1 16 Tryz.underlying28 hi0 hz0 hz1 hz2 rfl [w12.heap.size] (some ⟨w12.heap.size, 0, none⟩) 0 0 [] (.slice (M.g true).A xs.length (M.g true).c) xs.length (xs.map .string) (by rfl) (by rfl) (by exact Net.vec_empty w12 9 1 w12.heap.size rfl) (by exact HV0.out.src Tryz.underlying28 (by simp [Value.oneCell'])) (by unfold maxLen; omega) (by omega) ?_; intro v6 w13 happ; rw [Nat.zero_add, List.nil_append] at happ; obtain ⟨F6, A6, c6, rfl, hv6, ht6⟩ := happ.all; obtain ⟨hb6, hf6⟩ := ht6.below (B := w12.heap.size) (by simp) (by simp); have HB6 := Lib.hid (HB0.out.trans hb6); have HV6 := Lib.hid (And.intro hv6 hf6); clear happ hv6 ht6 hb6 hf6; have HBS := Lib.hid (show Below w13.heap.size w13 (w13.alloc (.cells #[.string td] 9)) from (Below.refl _ _).alloc (Nat.le_refl _) _); have HVS := Lib.hid (HV6.out.1.after HBS.out); clear yg)) | (at_builtin; (refine wpList_append_vec _ (by rfl) _ _ _ _ (by rfl) 9 i0 _ 1 16 Tryz.underlying28 hi0 hz0 hz1 hz2 rfl F6 A6 xs.length c6 (xs.map .string) (.slice (some ⟨w13.heap.size, 0, none⟩) 1 1) 1 [.string td] (by rfl) (by rfl) (by exact HVS.out) (by exact src_new _ Tryz.underlying28 [.string td] 1 1 1 rfl (by simp [Value.oneCell']) _ (heap_alloc_new w13 _)) (by unfold maxLen; omega) (by omega) ?_; intro v7 w14 happ; obtain ⟨F7, A7, c7, rfl, hv7, ht7⟩ := happ.all; obtain ⟨hb7, hf7⟩ := ht7.below (B := w12.heap.size) (by have := HB6.out.size; simp; omega) HV6.out.2; have HB7 := Lib.hid (HB6.out.trans ((HBS.out.mono HB6.out.size).trans hb7)); have HRV14 := Lib.hid (HRV12.out.after HB7.out); have yg : w14.cell? ⟨w.heap.size, 23, none⟩ = some (.slice (M.g true).A xs.length (M.g true).c) := (by have := RBox.gb HRV14.out.box (RM.fits _ _); rw [← HXS.out]; exact this); have fg : w14.frozen? ⟨w.heap.size, 23, none⟩ = false := frozen_of_block HRV14.out.box _; rw [HYX.out.1, HYX.out.2] at hv7; have hq15 := set_block HRV14.out.box 23 (.slice A7 (xs.length + 1) c7); have hk15 : Kept [w.heap.size] w14 (w14.setCell ⟨w.heap.size, 23, none⟩ (.slice A7 (xs.length + 1) c7)) := (Kept.refl [w.heap.size] w14).setCell (.inl (by simp)) _; have HRV15 : Hid (RV w M (((M.setN G' W' c' ws').setE true A5 c5 G2).setG true ⟨A7, c7, F7⟩) ({ ({ ({ s with n := n' } : PS) with e := up s.e true X } : PS) with g := up s.g true ys } : PS) (K + 1) (RM.rc (((M.setN G' W' c' ws').setE true A5 c5 G2).setG true ⟨A7, c7, F7⟩) ({ ({ ({ s with n := n' } : PS) with e := up s.e true X } : PS) with g := up s.g true ys } : PS)) (w14.setCell ⟨w.heap.size, 23, none⟩ (.slice A7 (xs.length + 1) c7))) := Lib.hid ((HRV14.out.setG true (a := ⟨A7, c7, F7⟩) (l := ys) hv7 (fun j hj => Nat.le_trans HRV12.out.lt (hf7 j hj))).put (by have e := rc_set_true ((M.setN G' W' c' ws').setE true A5 c5 G2) { ({ s with n := n' } : PS) with e := up s.e true X } ⟨A7, c7, F7⟩ ys; rw [← HYX.out.1] at e; unfold RBox; rw [← e]; exact hq15) hk15); obtain ⟨R15, hR15⟩ : ∃ Q9, (RM.rc (((M.setN G' W' c' ws').setE true A5 c5 G2).setG true ⟨A7, c7, F7⟩) ({ ({ ({ s with n := n' } : PS) with e := up s.e true X } : PS) with g := up s.g true ys } : PS)).all = Q9 := ⟨_, rfl⟩; have HS15 := Lib.hid (show R15.size = 27 from by rw [← hR15]; exact (RM.fits _ _).size); have HO15 := Lib.hid (show R15.all (·.oneCell') = true from by rw [← hR15]; exact (RM.fits _ _).all); have HR15 := Lib.hid hR15; have HBX15 : Hid ((w14.setCell ⟨w.heap.size, 23, none⟩ (.slice A7 (xs.length + 1) c7)).heap[w.heap.size]? = some (.cells R15 35 (0, 0))) := Lib.hid (by rw [← hR15]; exact HRV15.out.box); have HZ15 := Lib.hid HRV15.out.res; clear happ hv7 ht7 hb7 hf7 hq15 hk15 hR15)) | (refine wpList_load_row rfl 35 _ rfl w.heap.size rfl 35 R15 (0, 0) _ HBX15.out Tryz.underlying35 rfl (by rw [HS15.out]; exact infoP) ?_) | (refine wpList_store_all rfl 35 _ _ rfl (w.heap.size + 1) z27 R15 35 rfl rfl HZ15.out (by rw [HS15.out]; rfl) (by rw [HS15.out]; exact infoP) HO15.out ?_; intro w9 hq9 hk9))
          refine ret_row3 Tryz.results15 (w.heap.size + 1) _ _ _ (.string td) (.bool true) rfl hq9 rfl rfl Tryz.underlying35 rfl (by rw [HS15.out]; exact infoP) rfl ?_
          rw [HE2.out, HE.out.2.1, HE.out.2.2]
          exact RV.said (f := fun v => .tuple #[v, .string td, .bool true]) HRV15.out HR15.out hk9
    · have he : (E != 0) = true := by simp [hE]
      have HE := Lib.hid (show s.come true k = { s with n := n' } ∧ s.comeS true k = ⟨#[]⟩ ∧ s.comeB true k = false from by
        have hfr : s.frameB true k = false := by rw [HDEF.out.1, HFE.out.2.1]; simp [hE]
        unfold PS.come PS.comeS PS.comeB; rw [hfr, HLO.out]; exact ⟨rfl, rfl, rfl⟩)
      subst hw8
      go_wp2_with (first | (refine wpList_load_row rfl 35 _ rfl w.heap.size rfl 35 R6 (0, 0) _ HBX8.out Tryz.underlying35 rfl (by rw [HS6.out]; exact infoP) ?_) | (refine wpList_store_all rfl 35 _ _ rfl (w.heap.size + 1) z27 R6 35 rfl rfl HZ8.out (by rw [HS6.out]; rfl) (by rw [HS6.out]; exact infoP) HO6.out ?_; intro w9 hq9 hk9))
      refine ret_row3 Tryz.results15 (w.heap.size + 1) _ _ _ (.string ⟨#[]⟩) (.bool false) rfl hq9 rfl rfl Tryz.underlying35 rfl (by rw [HS6.out]; exact infoP) rfl ?_
      rw [HE.out.1, HE.out.2.1, HE.out.2.2]
      exact RV.said (f := fun v => .tuple #[v, .string ⟨#[]⟩, .bool false]) HRV8.out HR6.out hk9
end
end Go.Proofs.YtihhflajkohibaaGreatDoor.Pipe
