/- Layer 8, the reference: a net as a value: Turned, Flip. Conditions: the value's rows lie (RefNet). -/
import Derived.Test.YtndiclkfincbgaaNetRefD
namespace Go.Proofs.Ytndiclkfincbgaa.Net
set_option linter.unusedSimpArgs false
set_option linter.unusedVariables false
open Go.RowKit
set_option maxHeartbeats 4000000 in
theorem ref_turned (t : ByteArray) (bit : Int) (hb1 : -9223372036854775808 ≤ bit) (hb2 : bit ≤ 9223372036854775807) (hz : t.size ≠ 0) (hbig : t.size ≤ 1000000) (w : World) :
    Calls Try.prog 30 #[.string t, .int .i64 bit] w fun e w' => e = .returned (.string (NS.turn t bit)) ∧ Below w.heap.size w w' := by
  have hpos : 0 < t.size := by omega
  have hpl : ∀ m : Int, m = max (max bit (IntKind.i64.wrap (-bit))) 0 → NS.place t.size bit = m.toNat % (8 * t.size) := fun m hm => by unfold NS.place; rw [hm]
  have HPL := Lib.hid hpl
  have HB := Lib.hid (And.intro hb1 hb2)
  clear hpl hb1 hb2
  go_enter Try.func30, Try.ntmps30
  go_upto_if 7 with fail
  go_cut [1] (fun s1 wx => (∃ m : Int, s1 = .int .i64 m ∧ max m 0 = max (max bit (IntKind.i64.wrap (-bit))) 0) ∧ wx = w)
  case first =>
    have hbb := HB.out
    by_cases h0 : bit < 0
    · have d0 : decide (bit < 0) = true := by simpa using h0
      have hw : max (IntKind.i64.wrap (-bit)) 0 = max (max bit (IntKind.i64.wrap (-bit))) 0 := by omega
      have HWW := Lib.hid hw
      clear hw
      go_wp2_with fail
      go_meet
      exact ⟨⟨_, rfl, by first | exact HWW.out | (rw [← IntWalk.i64_left]; exact HWW.out) | (have := HWW.out; simpa [IntWalk.i64_left] using this)⟩, rfl⟩
    · have d0 : decide (bit < 0) = false := by simpa using h0
      have hw : max bit 0 = max (max bit (IntKind.i64.wrap (-bit))) 0 := by
        rw [IntKind.wrap_i64]; omega
      have HWW := Lib.hid hw
      clear hw
      go_wp2_with fail
      go_meet
      exact ⟨⟨_, rfl, HWW.out⟩, rfl⟩
  case rest =>
    obtain ⟨⟨m0, rfl, hm0⟩, rfl⟩ := hcut
    obtain ⟨m, hm⟩ : ∃ m, max (max bit (IntKind.i64.wrap (-bit))) 0 = m := ⟨_, rfl⟩
    have hm1 : 0 ≤ m := by omega
    have hmx : ∀ (ts : Array TypeId) (t : TypeId) (v : World), (Builtin.max_ ts t #[.int .i64 m0, .int .i64 0]).run Try.prog v = .ok (.int .i64 m) v := fun ts t v => by
      rw [← hm, ← hm0]
      simp only [Builtin.max_, Builtin.max2, List.foldlM_cons, List.foldlM_nil]
      simp
      omega
    have hpl := HPL.out m hm.symm
    have hrem : (m : Int) % (8 * (t.size : Int)) = ((NS.place t.size bit : Nat) : Int) := by
      rw [hpl, Int.natCast_emod, Int.toNat_of_nonneg hm1]; simp
    clear hm hm0
    have hnl : NS.place t.size bit < 8 * t.size := by rw [hpl]; exact Nat.mod_lt _ (by omega)
    have htu := turn_data t bit
    have HTU := Lib.hid htu
    clear htu
    generalize NS.place t.size bit = n at *
    obtain ⟨cap, w2, hcv, hb2, hby2, hs2⟩ := to_bytes t wc
    have HB2 := Lib.hid hb2
    have HBY := Lib.hid hby2
    have HS2 := Lib.hid hs2
    clear hb2 hby2 hs2
    have hn8 : n / 8 < t.size := by omega
    have hdl : n / 8 < t.data.toList.length := by simpa using hn8
    have g0 : (0 : Int) ≤ (n : Int) := by omega
    have hm8 : n % 8 < 8 := Nat.mod_lt _ (by omega)
    obtain ⟨i, hi⟩ : ∃ i, n / 8 = i := ⟨_, rfl⟩
    obtain ⟨j, hj⟩ : ∃ j, n % 8 = j := ⟨_, rfl⟩
    have e2 : IntKind.i64.wrap ((n : Int) / 8) = (i : Int) := by rw [IntWalk.i64_in _ (by omega)]; omega
    have e3 : (n : Int) / 8 = (i : Int) := by omega
    have e6 : ((n : Int)).tmod 8 = (j : Int) := by rw [Int.tmod_eq_emod_of_nonneg (by omega)]; omega
    have e7 : (n : Int) % 8 = (j : Int) := by omega
    have g1 : (i : Int) < (t.size : Int) := by omega
    have g2 : (0 : Int) ≤ (i : Int) := by omega
    have g3 : (0 : Int) ≤ (j : Int) := by omega
    have g4 : (j : Int) ≤ 8 := by omega
    have hwj : IntKind.u64.wrap (j : Int) = (j : Int) := by rw [IntKind.wrap_u64]; omega
    clear hpl
    rw [hj] at hm8 HTU
    rw [hi] at hdl hn8 HTU
    obtain ⟨old, hold⟩ : ∃ old, t.data.toList.getD i 0 = old := ⟨_, rfl⟩
    rw [hold] at HTU
    have q := (HBY.out i hdl).1
    rw [hold] at q
    have q2 := (HBY.out i hdl).2
    clear hi hj hold
    have hp : (2 : Int) ^ j % 256 = (2 : Int) ^ j := by
      have : j = 0 ∨ j = 1 ∨ j = 2 ∨ j = 3 ∨ j = 4 ∨ j = 5 ∨ j = 6 ∨ j = 7 := by omega
      rcases this with rfl | rfl | rfl | rfl | rfl | rfl | rfl | rfl <;> decide
    have hbs := HBY.out.set hdl (old ^^^ (1 <<< UInt8.ofNat j))
    rw [xor_nat old j hm8, ← xor_val old j hm8, ← hp] at hbs
    have hcv2 := of_bytes hbs t.size cap (by simp)
    have htt : (⟨(t.data.toList.set i (old ^^^ (1 <<< UInt8.ofNat j))).toArray⟩ : ByteArray) = NS.turn t bit := by
      refine ByteArray.ext (Array.ext' ?_)
      rw [HTU.out]
    rw [htt] at hcv2
    have HBL := Lib.hid (HB2.out.setCell (p := ⟨wc.heap.size, i, none⟩) (Nat.le_refl _) (.int .u8 (bits .xor .u8 (old.toNat : Int) ((2 : Int) ^ j % 256))))
    clear hp hbs htt
    go_wp2_with fail
    go_ret
    exact ⟨rfl, HBL.out⟩
theorem vec_free {w : World} {F : List Nat} {g o n c j : Nat} {cs : List Value} (h : Vec w F 1 (some ⟨g, o, none⟩) n c cs) (hj : j < n) : w.frozen? ⟨g, o + j, none⟩ = false := by
  rcases h.place with ⟨e, _⟩ | ⟨g', o', e, _, _, _, ht⟩
  · cases e
  · injection e with e
    injection e with e1 e2
    subst e1; subst e2
    have := h.le
    exact (ht j (by omega)).2
section
variable {w w' : World} {G : List Nat} {v : Value} {s : NS} {W : Option Addr} {c : Nat} {ws : List Way}
set_option maxRecDepth 100000 in
set_option maxHeartbeats 8000000 in
theorem ref_flip (h : RefNet w G v s W c ws) (a b k bit : Int) (hb1 : -9223372036854775808 ≤ bit) (hb2 : bit ≤ 9223372036854775807) (hbig : (s.look a b k).size ≤ 1000000) (hl : ws.length ≤ 900) :
    Calls Try.prog 17 #[v, .int .i64 a, .int .i64 b, .int .i64 k, .int .i64 bit] w (PutSaid w G (s.flip a b k bit) ws.length (s.flipOk a b k)) := by
  obtain ⟨i0, hi0, hz0, hz1, hz2⟩ := info_parts str_info
  have hv := h.v
  subst hv
  have hbx := boxes w (.int .i64 (s.n : Int)) (.int .i64 (s.m : Int)) (.slice W ws.length c)
  obtain ⟨w2, hw2⟩ : ∃ w2, (w.alloc (.cells #[.int .i64 (s.n : Int), .int .i64 (s.m : Int), .slice W ws.length c] 29)).alloc (.cells #[.int .i64 0, .int .i64 0, .slice none 0 0] 29) = w2 := ⟨_, rfl⟩
  rw [hw2] at hbx
  have hcap := h.ok.room a b
  have hm := h.ok.m1000
  have HBT := Lib.hid (And.intro hb1 hb2)
  have HBX := Lib.hid hbx
  have H0 := Lib.hid h
  have H := Lib.hid (h.after hbx.below)
  have HW2 := Lib.hid hw2
  have HF1 := Lib.hid (show s.flipOk a b k = false → s.flip a b k bit = s from fun e => by unfold NS.flip; rw [e]; rfl)
  have HF2 := Lib.hid (show s.flipOk a b k = true → s.flip a b k bit = s.set a b ((s.f a b).set k.toNat (NS.turn (s.look a b k) bit)) ∧ (s.set a b ((s.f a b).set k.toNat (NS.turn (s.look a b k) bit))).Ok from fun e => by
    have h1 := h.ok.flip a b k bit
    unfold NS.flip at h1 ⊢
    rw [e, if_pos rfl] at h1
    rw [e, if_pos rfl]
    exact ⟨rfl, h1⟩)
  have HFO := Lib.hid (show s.flipOk a b k = (s.isAt a b k && !((s.look a b k).size == 0)) from rfl)
  have HIA := Lib.hid (show s.isAt a b k = true → 0 ≤ k ∧ k < ((s.f a b).length : Int) from fun e => by simpa only [NS.isAt, decide_eq_true_eq] using e)
  clear h hbx hw2 hb1 hb2
  go_enter Try.func17, Try.ntmps17
  go_wp2_with fail
  rw [HW2.out]
  obtain ⟨b0, b1, b2, _, _, _⟩ := three HBX.out.box
  go_wp2_with fail
  refine (ref_look H.out a b k (by omega)).mono ?_
  rintro e w3 ⟨rfl, hb3⟩
  have HB3 := Lib.hid hb3
  have H3 := Lib.hid (H.out.after hb3)
  have hbox3 := (hb3.block _ (lt_of_block HBX.out.box)).trans HBX.out.box
  have hres3 := (hb3.block _ (lt_of_block HBX.out.res)).trans HBX.out.res
  have HRES3 := Lib.hid hres3
  have HBOX3 := Lib.hid hbox3
  clear b0 b1 b2 hb3
  obtain ⟨b0, b1, b2, _, _, _⟩ := three hbox3
  obtain ⟨_, _, _, g0, g1, g2⟩ := three hres3
  have hbw : Below w.heap.size w w3 := HBX.out.below.trans (HB3.out.mono (by have := HBX.out.sz; omega))
  have HBW := Lib.hid hbw
  have hsz3 : w.heap.size + 2 ≤ w3.heap.size := by have := HB3.out.size; have := HBX.out.sz; omega
  clear hbox3 hres3 hbw
  generalize ht : s.look a b k = t at *
  have HT := Lib.hid ht
  have hsz := empty_size t
  clear ht
  have hfin : s.flipOk a b k = false → ∀ wf, Kept [w.heap.size + 1] w3 wf → PutSaid w G (s.flip a b k bit) ws.length (s.flipOk a b k) (.returned (.tuple #[.agg #[.int .i64 (s.n : Int), .int .i64 (s.m : Int), .slice W ws.length c], .bool false])) wf := by
    intro e wf hkf
    rw [e, HF1.out e]
    exact ⟨_, W, c, ws, G, rfl, H3.out.kept hkf (fun k hk2 => by have := H0.out.lt k hk2; simp; omega), by omega, fun k hk => .inl hk, HBW.out.trans (hkf.below HBW.out.size (by simp))⟩
  have HFIN := Lib.hid hfin
  clear hfin
  cases hk : s.isAt a b k
  · have HE := Lib.hid (show s.flipOk a b k = false from by rw [HFO.out, hk]; rfl)
    clear hk hsz
    go_wp2_with fail
    have q := three_set HRES3.out (.int .i64 (s.n : Int)) (.int .i64 (s.m : Int)) (.slice W ws.length c)
    refine ret_row2 Try.results17 (w.heap.size + 1) _ _ _ _ rfl q.1 rfl Try.underlying29 rfl (by kernel_rfl) rfl ?_
    exact HFIN.out HE.out _ q.2
  · obtain ⟨hk0, hk1⟩ := HIA.out hk
    by_cases hz : t.size = 0
    · have HE := Lib.hid (show s.flipOk a b k = false from by rw [HFO.out, hk, hz]; rfl)
      rw [decide_eq_true hz] at hsz
      clear hk hz
      go_wp2_with fail
      have q := three_set HRES3.out (.int .i64 (s.n : Int)) (.int .i64 (s.m : Int)) (.slice W ws.length c)
      refine ret_row2 Try.results17 (w.heap.size + 1) _ _ _ _ rfl q.1 rfl Try.underlying29 rfl (by kernel_rfl) rfl ?_
      exact HFIN.out HE.out _ q.2
    · have hfo : s.flipOk a b k = true := by rw [HFO.out, hk]; simpa using hz
      obtain ⟨j, rfl⟩ := Int.eq_ofNat_of_zero_le hk0
      obtain ⟨hf1, hf2⟩ := HF2.out hfo
      rw [Int.toNat_natCast] at hf1 hf2
      rw [decide_eq_false hz] at hsz
      have HE := Lib.hid (And.intro hfo hf1)
      have HOK := Lib.hid hf2
      have hltb : w.heap.size < w3.heap.size := by omega
      have hb3' : Below w3.heap.size w3 (w3.alloc (.cells #[] 9)) := (Below.refl _ _).alloc (Nat.le_refl _) _
      have HVE := Lib.hid (vec_empty w3 9 1 w3.heap.size rfl)
      have HB3' := Lib.hid hb3'
      have H3' := Lib.hid (H3.out.after hb3')
      generalize hxs : s.f a b = xs at *
      have HXS := Lib.hid hxs
      have hjx : j < xs.length := by omega
      have hx1000 : xs.length ≤ 1000 := by omega
      clear hk hfo hf1 hf2 hb3' hxs
      go_wp2_with fail
      refine (ref_row H3'.out a b (by omega)).mono ?_
      rintro e w4 ⟨A4, c4, K, rfl, hv4, hK4, hb4⟩
      rw [HXS.out] at hv4 ⊢
      have HSRC := Lib.hid ((hv4.after hb4).src (P := Try.prog) Try.underlying41 (by simp [Value.oneCell']))
      have HV0 := Lib.hid (HVE.out.after hb4)
      have HB4 := Lib.hid (HB3'.out.trans (hb4.mono HB3'.out.size))
      clear hv4 hK4 hb4 b0 b1 b2 g0 g1 g2
      go_wp2_with (at_builtin; (refine wpList_append_vec _ (by rfl) _ _ _ _ (by rfl) 9 i0 _ 1 16 Try.underlying41 hi0 hz0 hz1 hz2 rfl [w3.heap.size] (some ⟨w3.heap.size, 0, none⟩) 0 0 [] (.slice A4 xs.length c4) xs.length (xs.map .string) (by rfl) (by rfl) (by exact HV0.out) (by exact HSRC.out) (by unfold maxLen; omega) (by omega) ?_; intro v5 w5 happ; rw [Nat.zero_add, List.nil_append] at happ; obtain ⟨F5, A5, c5, rfl, hv5, ht5⟩ := happ.all))
      have hF5 : ∀ k, k ∈ F5 → w3.heap.size ≤ k := fun k hk => (ht5.new k hk).elim (fun h => by simp at h; omega) (fun h => Nat.le_trans HB4.out.size h)
      have hk5 : Kept [] w3 w5 := kept_fresh (Kept.of_below HB4.out []) ht5.kept (by simp)
      refine (ref_turned t bit HBT.out.1 HBT.out.2 hz hbig _).mono ?_
      rintro e w6 ⟨rfl, hb6⟩
      have hv6 := hv5.after hb6
      have hk6 : Kept [] w3 w6 := hk5.trans (Kept.of_below hb6 [])
      obtain ⟨g5, o5, rfl, rfl, hg5, hc5⟩ := hv6.at (j := j) (u := .string xs[j]) (by rw [List.getElem?_map, List.getElem?_eq_getElem hjx]; rfl)
      have hfr5 := vec_free hv6 hjx
      have hg53 : w3.heap.size ≤ g5 := hF5 g5 (by simp)
      obtain ⟨t2, ht2⟩ : ∃ t2, NS.turn t bit = t2 := ⟨_, rfl⟩
      rw [ht2] at HE HOK ⊢
      have hv7 := vec_set hv6 hjx (.string t2)
      have hk7 : Kept [] w3 (w6.setCell ⟨g5, o5 + j, none⟩ (.string t2)) := kept_fresh hk6 ((Kept.refl [g5] w6).setCell (p := ⟨g5, o5 + j, none⟩) (.inl (by simp)) (.string t2)) (by simpa using hg53)
      have hbox7 := (hk7.block _ (lt_of_block HBOX3.out) (by simp)).trans HBOX3.out
      have hres7 := (hk7.block _ (lt_of_block HRES3.out) (by simp)).trans HRES3.out
      obtain ⟨b0, b1, b2, _, _, _⟩ := three hbox7
      obtain ⟨ys, hys⟩ : ∃ ys, xs.set j t2 = ys := ⟨_, rfl⟩
      have hyl : ys.length = xs.length := by rw [← hys, List.length_set]
      rw [show (xs.map Value.string).set j (.string t2) = ys.map .string from by rw [← hys, List.map_set]] at hv7
      rw [hys] at HE HOK
      have HYL := Lib.hid hyl
      rw [← hyl] at hv7
      have HV7 := Lib.hid hv7
      have HK7 := Lib.hid hk7
      have HR7 := Lib.hid hres7
      have i0' : (0 : Int) ≤ (j : Int) := by omega
      have i1' : (j : Int) < (xs.length : Int) := by omega
      clear hv5 ht5 hk5 hk6 hb6 hv6 hys hyl hv7 hk7 hbox7 hres7 ht2 happ hF5
      go_wp2_with fail
      rw [← HYL.out]
      refine (ref_with (H3.out.kept HK7.out (by simp)) a b HV7.out HOK.out (by omega)).mono ?_
      rintro e w8 ⟨y, W', c', ws', G', rfl, hy, hl', hG', hb8⟩
      have hyv := hy.v
      subst hyv
      have HY := Lib.hid hy
      have hres8 := (hb8.block _ (lt_of_block HR7.out)).trans HR7.out
      have HR8 := Lib.hid hres8
      have hbw8 := HBW.out.trans ((HK7.out.below (B := w3.heap.size) (Nat.le_refl _) (by simp)).mono HBW.out.size)
      have HBW8 := Lib.hid (hbw8.trans (hb8.mono hbw8.size))
      have hsz8 : w3.heap.size ≤ w8.heap.size := Nat.le_trans HK7.out.size hb8.size
      have HGG := Lib.hid (show ∀ k, k ∈ G' → k ∈ G ∨ w3.heap.size ≤ k from fun k hk => (hG' k hk).imp id fun h => h.elim (fun h => by simp at h; omega) (fun h => Nat.le_trans HK7.out.size h))
      clear b0 b1 b2 hy hb8 hbw8 hG' HV7
      obtain ⟨_, _, _, g0, g1, g2⟩ := three hres8
      clear hres8
      generalize hsn : (s.set a b ys).n = sn at *
      generalize hsm : (s.set a b ys).m = sm at *
      have HSN := Lib.hid (And.intro hsn hsm)
      clear hsn hsm
      go_wp2_with fail
      have q := three_set HR8.out (.int .i64 (sn : Int)) (.int .i64 (sm : Int)) (.slice W' ws'.length c')
      refine ret_row2 Try.results17 (w.heap.size + 1) _ _ _ _ rfl q.1 rfl Try.underlying29 rfl (by kernel_rfl) rfl ?_
      have hfin : ∀ wf, Kept [w.heap.size + 1] w8 wf → PutSaid w G (s.flip a b (j : Int) bit) ws.length (s.flipOk a b (j : Int)) (.returned (.tuple #[.agg #[.int .i64 (sn : Int), .int .i64 (sm : Int), .slice W' ws'.length c'], .bool true])) wf := by
        intro wf hkf
        rw [HE.out.1, HE.out.2]
        refine ⟨_, W', c', ws', G', rfl, HY.out.kept hkf (fun k hk2 => ?_), hl', fun k hk2 => (HGG.out k hk2).imp id (fun h => by omega), HBW8.out.trans (hkf.below HBW8.out.size (by simp))⟩
        rcases HGG.out k hk2 with h | h
        · have := H0.out.lt k h; simp; omega
        · simp; omega
      exact hfin _ q.2
end
end Go.Proofs.Ytndiclkfincbgaa.Net
