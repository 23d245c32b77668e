/- Layer 8: a bit turned of what is on its way in a net. Conditions: the net lies (NetIs). -/
import Derived.Test.YtihhflajkohibaaGreatDoorBytes8
import Derived.Deep.DeepCutAuto
import Derived.Laws.BitsAllLaws
namespace Go.Proofs.YtihhflajkohibaaGreatDoor.Net
set_option linter.unusedSimpArgs false
set_option linter.unusedVariables false
set_option maxRecDepth 100000
open Go.RowKit
theorem empty_size (b : ByteArray) : b.toList.isEmpty = decide (b.size = 0) := by
  have e : b.toList = b.data.toList := Lib.toList_data b
  rw [e, Bool.eq_iff_iff, List.isEmpty_iff, decide_eq_true_iff, ← List.length_eq_zero_iff, Array.length_toList]
  rfl
theorem one_shl (j : Nat) (h : j < 8) : ((1 : UInt8) <<< UInt8.ofNat j).toNat = 2 ^ j := by
  have : j = 0 ∨ j = 1 ∨ j = 2 ∨ j = 3 ∨ j = 4 ∨ j = 5 ∨ j = 6 ∨ j = 7 := by omega
  rcases this with rfl | rfl | rfl | rfl | rfl | rfl | rfl | rfl <;> decide
theorem xor_nat (a : UInt8) (j : Nat) (h : j < 8) : (a ^^^ ((1 : UInt8) <<< UInt8.ofNat j)).toNat = a.toNat ^^^ 2 ^ j := by
  rw [UInt8.toNat_xor, one_shl j h]
theorem pow_lt (j : Nat) (h : j < 8) : 2 ^ j < 256 := by
  have : j = 0 ∨ j = 1 ∨ j = 2 ∨ j = 3 ∨ j = 4 ∨ j = 5 ∨ j = 6 ∨ j = 7 := by omega
  rcases this with rfl | rfl | rfl | rfl | rfl | rfl | rfl | rfl <;> decide
theorem pow_wrap (j : Nat) (h : j < 8) : IntKind.u8.wrap ((2 : Int) ^ j) = ((2 ^ j : Nat) : Int) := by
  have : j = 0 ∨ j = 1 ∨ j = 2 ∨ j = 3 ∨ j = 4 ∨ j = 5 ∨ j = 6 ∨ j = 7 := by omega
  rcases this with rfl | rfl | rfl | rfl | rfl | rfl | rfl | rfl <;> decide
theorem xor_val (a : UInt8) (j : Nat) (h : j < 8) : bits .xor .u8 (a.toNat : Int) ((2 : Int) ^ j) = ((a.toNat ^^^ 2 ^ j : Nat) : Int) := by
  have e : (2 : Int) ^ j = ((2 ^ j : Nat) : Int) := by
    have : j = 0 ∨ j = 1 ∨ j = 2 ∨ j = 3 ∨ j = 4 ∨ j = 5 ∨ j = 6 ∨ j = 7 := by omega
    rcases this with rfl | rfl | rfl | rfl | rfl | rfl | rfl | rfl <;> rfl
  rw [e]
  exact u8_xor_nat _ _ a.toNat_lt (pow_lt j h)
theorem _root_.Go.Proofs.YtihhflajkohibaaGreatDoor.BytesAt.kept {w w' : World} {g : Nat} {l : List UInt8} {L : List Nat} (h : BytesAt w g l) (hk : Kept L w w') (hg : g < w.heap.size) (hn : g ∉ L) : BytesAt w' g l := fun j hj =>
  ⟨(hk.cell (p := ⟨g, j, none⟩) hg hn).trans (h j hj).1, (hk.frozen (p := ⟨g, j, none⟩) hg hn).trans (h j hj).2⟩
/-- a cell of a row of texts is another one -/
theorem vec_set {w : World} {G : List Nat} {g off n c : Nat} {cs : List Value} (h : Vec w G 1 (some ⟨g, off, none⟩) n c cs) {i : Nat} (hi : i < n) (u : Value) : Vec (w.setCell ⟨g, off + i, none⟩ u) G 1 (some ⟨g, off, none⟩) n c (cs.set i u) := by
  have hl := h.len
  refine ⟨by rw [List.length_set]; exact hl, h.le, h.max, .inr ?_⟩
  rcases h.place with ⟨e, _⟩ | ⟨g', off', e, rfl, hg, hr, ht⟩
  · cases e
  · injection e with e
    injection e with e1 e2
    subst e1; subst e2
    refine ⟨g, off, rfl, rfl, by simpa [World.setCell] using hg, fun j v hj => ?_, fun j hj => ?_⟩
    · by_cases hij : i = j
      · subst hij
        have hic : i < cs.length := by omega
        rw [List.getElem?_set_self hic] at hj
        rw [World.cell?_setCell_same w _ _ (hr i cs[i] (List.getElem?_eq_getElem hic))]; exact hj
      · rw [List.getElem?_set_ne hij] at hj
        rw [World.cell?_setCell_other w _ _ _ (by intro e; injection e with _ e; omega)]
        exact hr j v hj
    · obtain ⟨k1, k2⟩ := ht j hj
      refine ⟨?_, by rw [World.frozen?_setCell]; exact k2⟩
      by_cases hij : i = j
      · subst hij
        obtain ⟨v, hv⟩ := Option.isSome_iff_exists.1 k1
        rw [World.cell?_setCell_same w _ _ hv]; rfl
      · rw [World.cell?_setCell_other w _ _ _ (by intro e; injection e with _ e; omega)]; exact k1
section
variable {w : World} {p : Nat} {F : List Nat} {s : NS}
set_option maxHeartbeats 4000000 in
theorem flip_no (h : NetIs w p F s) (a b k bit : Int) (hf : s.flipOk a b k = false) :
    Calls Tryz.prog 55 #[.pointer (some ⟨p, 0, none⟩), .int .i64 a, .int .i64 b, .int .i64 k, .int .i64 bit] w (Act1 w p F s (.bool false)) := by
  have H := Lib.hid h
  have hcase : s.isAt a b k = false ∨ (s.isAt a b k = true ∧ (s.look a b k).size = 0) := by
    cases hk : s.isAt a b k
    · exact .inl rfl
    · refine .inr ⟨rfl, ?_⟩
      simpa [NS.flipOk, hk] using hf
  have HC := Lib.hid hcase
  clear h hf hcase
  go_enter Tryz.func55, Tryz.ntmps55
  go_wp2_with fail
  refine (look_any H.out a b k).mono ?_
  rintro e w1 ⟨rfl, F1, hn1, ht1⟩
  have HN := Lib.hid (And.intro hn1 ht1)
  clear hn1 ht1
  generalize s.look a b k = t at *
  generalize s.isAt a b k = ok at *
  rcases HC.out with rfl | ⟨rfl, h0⟩
  · go_wp2_with fail
    go_ret
    exact Act1.mk' HN.out.1 HN.out.2
  · have hsz := empty_size t
    rw [decide_eq_true h0] at hsz
    clear h0
    go_wp2_with fail
    go_ret
    exact Act1.mk' HN.out.1 HN.out.2
set_option maxHeartbeats 4000000 in
theorem flip_yes (h : NetIs w p F s) (a b k bit : Int) (hf : s.flipOk a b k = true) (hbig : (s.look a b k).size ≤ 1000000) :
    Calls Tryz.prog 55 #[.pointer (some ⟨p, 0, none⟩), .int .i64 a, .int .i64 b, .int .i64 k, .int .i64 bit] w (Act1 w p F (s.flip a b k bit) (.bool true)) := by
  have hfl : s.flip a b k bit = s.set a b ((s.f a b).set k.toNat (NS.turn (s.look a b k) bit)) := by unfold NS.flip; rw [hf]; rfl
  rw [hfl]
  simp only [NS.flipOk, Bool.and_eq_true] at hf
  obtain ⟨hk, hz⟩ := hf
  have hz' : (s.look a b k).size ≠ 0 := by simpa using hz
  have H := Lib.hid h
  have HG := Lib.hid (NS.isAt_good h.ok hk)
  have HK := Lib.hid hk
  clear h hfl hz hk
  go_enter Tryz.func55, Tryz.ntmps55
  go_wp2_with fail
  refine (look_any H.out a b k).mono ?_
  rintro e w1 ⟨rfl, F1, hn1, ht1⟩
  rw [HK.out]
  have HN := Lib.hid (And.intro hn1 ht1)
  clear hn1 ht1
  generalize ht : s.look a b k = t at *
  have HT := Lib.hid ht
  have hsz := empty_size t
  rw [decide_eq_false hz'] at hsz
  have hpos : 0 < t.size := by omega
  clear ht hz'
  obtain ⟨m, hm⟩ : ∃ m, max (max bit (wrap64 (-bit))) 0 = m := ⟨_, rfl⟩
  have hmx : ∀ (ts : Array TypeId) (t : TypeId) (v : World), (Builtin.max_ ts t #[.int .i64 bit, .int .i64 (wrap64 (-bit)), .int .i64 0]).run Tryz.prog v = .ok (.int .i64 m) v := fun ts t v => by
    rw [← hm]
    simp only [Builtin.max_, Builtin.max2, List.foldlM_cons, List.foldlM_nil]
    simp
    omega
  have hm0 : 0 ≤ m := by omega
  have hpl : NS.place t.size bit = m.toNat % (8 * t.size) := by unfold NS.place; rw [← hm, IntWalk.i64_left]
  have HPL := Lib.hid hpl
  clear hm hpl
  go_upto_region 4 with fail
  go_cut [13] (fun s13 wx => s13 = .int .i64 ((NS.place t.size bit : Nat) : Int) ∧ wx = w1)
  case first =>
    go_wp2_with fail
    go_meet
    refine ⟨?_, rfl⟩
    rw [HPL.out]
    congr 1
    rw [Int.natCast_emod, Int.toNat_of_nonneg hm0]
    simp
  case rest =>
    obtain ⟨rfl, rfl⟩ := hcut
    have hnl : NS.place t.size bit < 8 * t.size := by rw [HPL.out]; exact Nat.mod_lt _ (by omega)
    have htu : NS.turn t bit = ⟨t.data.setIfInBounds (NS.place t.size bit / 8) ((t.data.getD (NS.place t.size bit / 8) 0) ^^^ (1 <<< UInt8.ofNat (NS.place t.size bit % 8)))⟩ := rfl
    have HTU := Lib.hid htu
    clear htu
    generalize NS.place t.size bit = n at *
    obtain ⟨cap, w2, hcv, hb2, hby2, hs2⟩ := to_bytes t wc
    have HB2 := Lib.hid hb2
    have HBY := Lib.hid hby2
    have HS2 := Lib.hid hs2
    clear hb2 hby2 hs2
    go_wp2_with fail
    have hn8 : n / 8 < t.size := by omega
    have hdl : n / 8 < t.data.toList.length := by simpa using hn8
    have g0 : (0 : Int) ≤ (n : Int) := by omega
    have hm8 : n % 8 < 8 := Nat.mod_lt _ (by omega)
    obtain ⟨i, hi⟩ : ∃ i, n / 8 = i := ⟨_, rfl⟩
    obtain ⟨j, hj⟩ : ∃ j, n % 8 = j := ⟨_, rfl⟩
    have e2 : IntKind.i64.wrap ((n : Int) / 8) = (i : Int) := by rw [IntWalk.i64_in _ (by omega)]; omega
    have e6 : ((n : Int)).tmod 8 = (j : Int) := by rw [Int.tmod_eq_emod_of_nonneg (by omega)]; omega
    have g1 : (i : Int) < (t.size : Int) := by omega
    have g2 : (0 : Int) ≤ (i : Int) := by omega
    have g3 : (0 : Int) ≤ (j : Int) := by omega
    have g4 : (j : Int) ≤ 8 := by omega
    rw [hj] at hm8
    rw [hi] at hdl hn8
    have HIJ := Lib.hid (And.intro hi hj)
    obtain ⟨old, hold⟩ : ∃ old, t.data.toList.getD i 0 = old := ⟨_, rfl⟩
    have HOLD := Lib.hid hold
    clear hi hj hold
    refine' wp_flow [only 0 _, only 1 _, only 2 (.int .i64 (i : Int)), only 3 (.pointer (some ⟨wc.heap.size, i, none⟩)), only 4 (.int .u8 (old.toNat : Int)), only 5 _, only 6 (.int .i64 (j : Int)), only 7 (.int .u8 ((2 ^ j : Nat) : Int)), only 8 (.int .u8 ((old.toNat ^^^ 2 ^ j : Nat) : Int)), only 9 (.pointer (some ⟨wc.heap.size, i, none⟩)), (fun _ v => BytesAt v wc.heap.size (t.data.toList.set i (old ^^^ (1 <<< UInt8.ofNat j)))), (fun _ v => BytesAt v wc.heap.size t.data.toList)] (fun v => Below wc.heap.size wc v ∧ wc.heap.size < v.heap.size) [[], [], [1], [0, 2], [3, 11], [], [5], [6], [4, 7], [0, 2], [8, 9, 11]] [[], [], [], [], [], [], [], [], [], [], [11]] [[], [], [], [], [], [], [], [], [], [], []] [[11], [11], [11], [11], [11], [11], [11], [11], [11], [11], []] [10, 11] [0, 0, 2, 7, 15, 0, 32, 96, 255, 7, 1023] _ (fun us => ?hfr) (by kernel_rfl) (by kernel_rfl) (by kernel_rfl) ⟨only_still _, only_still _, only_still _, only_still _, only_still _, only_still _, only_still _, only_still _, only_still _, only_still _, trivial, trivial, trivial⟩ (⟨below_drewN HB2.out 1, by have := HS2.out; show wc.heap.size < w2.heap.size; omega⟩) (by simp) (HBY.out) ?hst ?hla
    case hfr => (simp only [List.cons_append, List.nil_append, putAll, Act.put, List.setIfInBounds_toArray, List.set_cons_zero, List.set_cons_succ, Nat.reduceAdd]; rfl)
    case hst =>
      refine ⟨?_, ?_, ?_, ?_, ?_, ?_, ?_, ?_, ?_, ?_, ?_, trivial⟩
      · intro us v hR hn ho K hK
        clear ho
        skip
        rw [if_pos (by rfl)]
        go_simp
        refine hK _ _ _ (by simp only [Act.put, List.setIfInBounds_toArray, List.set_cons_zero, List.set_cons_succ, Nat.reduceAdd] <;> rfl) ?_ hR ⟨fun h => h, trivial⟩
        refine only_mk (v := v) ?_
        with_reducible rfl
      · intro us v hR hn ho K hK
        clear ho
        skip
        rw [if_pos (by rfl)]
        go_simp
        refine hK _ _ _ (by simp only [Act.put, List.setIfInBounds_toArray, List.set_cons_zero, List.set_cons_succ, Nat.reduceAdd] <;> rfl) ?_ hR ⟨fun h => h, trivial⟩
        refine only_mk (v := v) ?_
        with_reducible rfl
      · intro us v hR hn ho K hK
        obtain ⟨n1, -⟩ := hn
        have n1 : us 1 = _ := n1
        clear ho
        skip
        rw [if_pos (by rfl)]
        go_simp
        refine hK _ _ _ (by simp only [Act.put, List.setIfInBounds_toArray, List.set_cons_zero, List.set_cons_succ, Nat.reduceAdd, n1] <;> rfl) ?_ hR ⟨fun h => h, trivial⟩
        refine only_mk (v := v) ?_
        with_reducible rfl
      · intro us v hR hn ho K hK
        obtain ⟨n0, n2, -⟩ := hn
        have n0 : us 0 = _ := n0
        have n2 : us 2 = _ := n2
        clear ho
        skip
        rw [if_pos (by rfl)]
        go_simp
        refine hK _ _ _ (by simp only [Act.put, List.setIfInBounds_toArray, List.set_cons_zero, List.set_cons_succ, Nat.reduceAdd, n0, n2] <;> rfl) ?_ hR ⟨fun h => h, trivial⟩
        refine only_mk (v := v) ?_
        with_reducible rfl
      · intro us v hR hn ho K hK
        obtain ⟨n3, ns, -⟩ := hn
        have n3 : us 3 = _ := n3
        clear ho
        skip
        have q := (ns i hdl).1
        rw [HOLD.out] at q
        rw [if_pos (by rfl)]
        go_simp
        refine hK _ _ _ (by simp only [Act.put, List.setIfInBounds_toArray, List.set_cons_zero, List.set_cons_succ, Nat.reduceAdd, n3] <;> rfl) ?_ hR ⟨fun h => h, trivial⟩
        refine only_mk (v := v) ?_
        with_reducible rfl
      · intro us v hR hn ho K hK
        clear ho
        skip
        rw [if_pos (by rfl)]
        go_simp
        refine hK _ _ _ (by simp only [Act.put, List.setIfInBounds_toArray, List.set_cons_zero, List.set_cons_succ, Nat.reduceAdd] <;> rfl) ?_ hR ⟨fun h => h, trivial⟩
        refine only_mk (v := v) ?_
        with_reducible rfl
      · intro us v hR hn ho K hK
        obtain ⟨n5, -⟩ := hn
        have n5 : us 5 = _ := n5
        clear ho
        skip
        rw [if_pos (by rfl)]
        go_simp
        refine hK _ _ _ (by simp only [Act.put, List.setIfInBounds_toArray, List.set_cons_zero, List.set_cons_succ, Nat.reduceAdd, n5] <;> rfl) ?_ hR ⟨fun h => h, trivial⟩
        refine only_mk (v := v) ?_
        with_reducible rfl
      · intro us v hR hn ho K hK
        obtain ⟨n6, -⟩ := hn
        have n6 : us 6 = _ := n6
        clear ho
        skip
        rw [if_pos (by rfl)]
        go_simp
        refine hK _ _ _ (by simp only [Act.put, List.setIfInBounds_toArray, List.set_cons_zero, List.set_cons_succ, Nat.reduceAdd, n6] <;> rfl) ?_ hR ⟨fun h => h, trivial⟩
        refine only_mk (v := v) ?_
        rw [pow_wrap j hm8]
      · intro us v hR hn ho K hK
        obtain ⟨n4, n7, -⟩ := hn
        have n4 : us 4 = _ := n4
        have n7 : us 7 = _ := n7
        clear ho
        skip
        rw [if_pos (by rfl)]
        go_simp
        refine hK _ _ _ (by simp only [Act.put, List.setIfInBounds_toArray, List.set_cons_zero, List.set_cons_succ, Nat.reduceAdd, n4, n7] <;> rfl) ?_ hR ⟨fun h => h, trivial⟩
        refine only_mk (v := v) ?_
        rw [xor_val old j hm8]
      · intro us v hR hn ho K hK
        obtain ⟨n0, n2, -⟩ := hn
        have n0 : us 0 = _ := n0
        have n2 : us 2 = _ := n2
        clear ho
        skip
        rw [if_pos (by rfl)]
        go_simp
        refine hK _ _ _ (by simp only [Act.put, List.setIfInBounds_toArray, List.set_cons_zero, List.set_cons_succ, Nat.reduceAdd, n0, n2] <;> rfl) ?_ hR ⟨fun h => h, trivial⟩
        refine only_mk (v := v) ?_
        with_reducible rfl
      · intro us v hR hn ho K hK
        obtain ⟨n8, n9, ns, -⟩ := hn
        have n8 : us 8 = _ := n8
        have n9 : us 9 = _ := n9
        clear ho
        skip
        have q := (ns i hdl).1
        have q2 := (ns i hdl).2
        have hset := ns.set hdl (old ^^^ (1 <<< UInt8.ofNat j))
        rw [xor_nat old j hm8] at hset
        rw [if_pos (by rfl)]
        have HSET := Lib.hid hset
        clear hset ns
        go_simp
        exact hK undef _ _ (by simp only [Act.put, List.setIfInBounds_toArray, List.set_cons_zero, List.set_cons_succ, Nat.reduceAdd, n8, n9] <;> rfl) HSET.out ⟨hR.1.setCell (Nat.le_refl _) _, by simpa [World.setCell] using hR.2⟩ trivial
    case hla =>
      intro us v hR hl
      obtain ⟨n0, n1, n2, n3, n4, n5, n6, n7, n8, n9, n10, -⟩ := need_last hl [0, 1, 2, 3, 4, 5, 6, 7, 8, 9, 10] (by kernel_rfl)
      have n0 : us 0 = _ := n0
      have n1 : us 1 = _ := n1
      have n2 : us 2 = _ := n2
      have n3 : us 3 = _ := n3
      have n4 : us 4 = _ := n4
      have n5 : us 5 = _ := n5
      have n6 : us 6 = _ := n6
      have n7 : us 7 = _ := n7
      have n8 : us 8 = _ := n8
      have n9 : us 9 = _ := n9
      skip
      simp only [n0, n1, n2, n3, n4, n5, n6, n7, n8, n9]
      clear hl n0 n1 n2 n3 n4 n5 n6 n7 n8 n9
      have htb : NS.turn t bit = ⟨(t.data.toList.set i (old ^^^ (1 <<< UInt8.ofNat j))).toArray⟩ := by
        rw [HTU.out, HIJ.out.1, HIJ.out.2]
        congr 1
        apply Array.ext'
        have : t.data.getD i 0 = old := by rw [← HOLD.out, Array.getD_eq_getD_getElem?, List.getD_eq_getElem?_getD, Array.getElem?_toList]
        rw [this]; simp
      have HTB := Lib.hid htb
      have HBS := Lib.hid (And.intro n10 hR.1)
      have hnet := HN.out.1.after hR.1
      have hwl := hR.2
      have HNET := Lib.hid hnet
      obtain ⟨ki, hki⟩ := Int.eq_ofNat_of_zero_le (show 0 ≤ k by have := HK.out; simp only [NS.isAt, decide_eq_true_eq] at this; omega)
      have hkl : ki < (s.f a b).length := by have := HK.out; simp only [NS.isAt, decide_eq_true_eq] at this; omega
      subst hki
      clear htb n10 hR hnet e2 e6 g1 g2 g3 g4 hcv hsz
      go_wp2_with fail
      refine (row_yes HNET.out a b HG.out).mono ?_
      rintro e w4 ⟨P, Q, F4, rfl, hat, ht4⟩
      have hby4 := HBS.out.1.kept ht4.kept hwl (fun hm => by have := HN.out.1.lt hm; omega)
      have HBY4 := Lib.hid hby4
      have HA := Lib.hid hat
      have HT4 := Lib.hid ht4
      have hws4 := ht4.kept.size
      clear hby4 hat ht4
      go_wp2_with fail
      refine (RingS.all_has HA.out.has).mono ?_
      rintro e w5 ⟨vv, rfl, hown, hb5⟩
      obtain ⟨Gv, Av, cv, rfl, hv5, hGv⟩ := Vec.of_own hown
      have hlen : (s.f a b).length ≤ 1000 := Nat.le_trans HA.out.has.cap HA.out.has.mle
      have hPl := HA.out.has.p_lt
      have hQl := HA.out.has.q_lt
      have hcell : ((s.f a b).map Value.string)[ki]? = some (.string (s.f a b)[ki]) := by rw [List.getElem?_map, List.getElem?_eq_getElem hkl]; rfl
      obtain ⟨g2, off, rfl, hG2, hg2, hc2⟩ := hv5.at hcell
      have hfz : w5.frozen? ⟨g2, off + ki, none⟩ = false := by
        rcases hv5.place with ⟨e, _⟩ | ⟨g', off', e, _, _, _, hth⟩
        · cases e
        · injection e with e
          injection e with e1 e2
          subst e1; subst e2
          exact (hth ki (by have := hv5.le; omega)).2
      have hg2w : w4.heap.size ≤ g2 := hGv g2 (by rw [hG2]; simp)
      have hcv := of_bytes (HBY4.out.below hb5 (Nat.lt_of_lt_of_le hwl hws4)) t.size cap (by simp)
      rw [← HTB.out] at hcv
      have hv6 := vec_set hv5 hkl (.string (NS.turn t bit))
      have e6 : ((s.f a b).map Value.string).set ki (.string (NS.turn t bit)) = ((s.f a b).set ki (NS.turn t bit)).map Value.string := by rw [List.map_set]
      rw [e6] at hv6
      have hk6 : Kept [P, Q] w4 (w5.setCell ⟨g2, off + ki, none⟩ (.string (NS.turn t bit))) := (Kept.of_below hb5 [P, Q]).setCell (.inr hg2w) _
      have hh6 : RingS.Has (w5.setCell ⟨g2, off + ki, none⟩ (.string (NS.turn t bit))) P Q s.m (s.f a b) := has_keep HA.out.has ((Below.heap_setCell w5 _ _ P (by show P ≠ g2; omega)).trans (hb5.block P hPl)) ((Below.heap_setCell w5 _ _ Q (by show Q ≠ g2; omega)).trans (hb5.block Q hQl))
      have hys : ((s.f a b).set ki (NS.turn t bit)).length = (s.f a b).length := List.length_set
      have hcap := HA.out.has.cap
      have HV6 := Lib.hid hv6
      have HK6 := Lib.hid hk6
      have HH6 := Lib.hid hh6
      have HGV := Lib.hid hGv
      have g0' : (0 : Int) ≤ (ki : Int) := by omega
      have g1' : (ki : Int) < ((s.f a b).length : Int) := by omega
      obtain ⟨xs, hxs⟩ : ∃ xs, s.f a b = xs := ⟨_, rfl⟩
      obtain ⟨ys, hyy⟩ : ∃ ys, (s.f a b).set ki (NS.turn t bit) = ys := ⟨_, rfl⟩
      have HYS := Lib.hid hyy
      rw [hyy] at HV6 hys
      rw [hxs] at HV6 HH6 hys hlen hkl g1' hcap ⊢
      have HYL := Lib.hid hys
      have hkp : ∀ k, k ∈ Gv → k ∉ [P, Q] := fun k hk hm => by have := hGv k hk; simp at hm; omega
      have HKP := Lib.hid hkp
      clear hown hv5 hcell hGv hv6 hk6 hh6 hxs hyy hys e6 hb5 hkp
      go_wp2_with fail
      clear hcv hc2 hfz g0' g1'
      generalize w5.setCell ⟨g2, off + ki, none⟩ (.string (NS.turn t bit)) = w6 at *
      go_loopw [66] (fun i wr => ∃ n : Nat, n ≤ xs.length ∧ i = .int .i64 (n : Int) ∧ RingS.Has wr P Q s.m (xs.drop n) ∧ Kept [P, Q] w6 wr) (fun i _ => xs.length - (intOf i).toNat)
      case atStart => exact ⟨0, Nat.zero_le _, rfl, by simpa using HH6.out, Kept.refl _ _⟩
      case round =>
        obtain ⟨n1, hn1, rfl, hh, hk⟩ := hrel
        have HHH := Lib.hid hh
        have HKK := Lib.hid hk
        clear hh hk
        by_cases hlt : n1 < xs.length
        · have hd : decide (n1 < xs.length) = true := by simpa using hlt
          go_wp2_with fail
          refine (RingS.pop_has HHH.out).mono ?_
          rintro e w7 ⟨rfl, hh7, hk7⟩
          have HALL := Lib.hid (show RingS.Has w7 P Q s.m (xs.drop (n1 + 1)) ∧ Kept [P, Q] w6 w7 from ⟨by rw [← List.tail_drop]; exact hh7, HKK.out.trans hk7⟩)
          clear hh7 hk7
          go_wp2_with fail
          go_roundw
          case rel => exact ⟨n1 + 1, hlt, by go_num, HALL.out.1, HALL.out.2⟩
          case measure => simp [intOf]; omega
        · obtain rfl : n1 = xs.length := by omega
          have hd : decide (xs.length < xs.length) = false := by simp
          have hstart : RingS.Has wr P Q s.m (ys.take 0) := by simpa using HHH.out
          have HSTART := Lib.hid hstart
          clear hstart
          go_wp2_with fail
          go_loopw [73] (fun i wz => ∃ n : Nat, n ≤ xs.length ∧ i = .int .i64 (n : Int) ∧ RingS.Has wz P Q s.m (ys.take n) ∧ Kept [P, Q] w6 wz) (fun i _ => xs.length - (intOf i).toNat)
          case atStart => exact ⟨0, Nat.zero_le _, rfl, HSTART.out, HKK.out⟩
          case round =>
            obtain ⟨n2, hn2, rfl, hh2, hk2⟩ := hrel
            have HH2 := Lib.hid hh2
            have HK2 := Lib.hid hk2
            have hv2 := HV6.out.kept hk2 HKP.out
            have HV2 := Lib.hid hv2
            clear hh2 hk2 hv2
            by_cases hlt2 : n2 < xs.length
            · have hyl : n2 < ys.length := by rw [HYL.out]; exact hlt2
              have hcy : (ys.map Value.string)[n2]? = some (.string ys[n2]) := by rw [List.getElem?_map, List.getElem?_eq_getElem hyl]; rfl
              obtain ⟨g9, o9, e9, _, _, hc9⟩ := HV2.out.at hcy
              injection e9 with e9
              injection e9 with e91 e92
              subst e91; subst e92
              have hpush : RingS.pushed s.m (ys.take n2) ys[n2] = ys.take (n2 + 1) := by
                unfold RingS.pushed
                rw [if_pos (by rw [List.length_take]; omega), List.take_succ_eq_append_getElem hyl]
              have HPU := Lib.hid hpush
              generalize ys[n2] = y at *
              have j0 : (0 : Int) ≤ (n2 : Int) := by omega
              have j1 : (n2 : Int) < (xs.length : Int) := by omega
              clear hcy hpush
              go_wp2_with fail
              refine (RingS.push_has HH2.out y).mono ?_
              rintro e w8 ⟨rfl, hh8, hk8⟩
              have HALL := Lib.hid (show RingS.Has w8 P Q s.m (ys.take (n2 + 1)) ∧ Kept [P, Q] w6 w8 from ⟨by rw [← HPU.out]; exact hh8, HK2.out.trans hk8⟩)
              clear hh8 hk8
              go_wp2_with fail
              go_roundw
              case rel => exact ⟨n2 + 1, hlt2, by go_num, HALL.out.1, HALL.out.2⟩
              case measure => simp [intOf]; omega
            · obtain rfl : n2 = xs.length := by omega
              have hfull : ys.take xs.length = ys := by rw [← HYL.out, List.take_length]
              have hfin := HA.out.after (xs := ys) (HN.out.2.trans ((Turns.of_below HBS.out.2 _).trans HT4.out)) (by rw [← hfull]; exact HH2.out) (HK6.out.trans HK2.out)
              have HFIN := Lib.hid hfin
              clear hfull hfin
              go_wp2_with fail
              go_ret
              exact Act1.mk' (by have q := HFIN.out.1; rw [← HYS.out] at q; simpa using q) HFIN.out.2
end
end Go.Proofs.YtihhflajkohibaaGreatDoor.Net
