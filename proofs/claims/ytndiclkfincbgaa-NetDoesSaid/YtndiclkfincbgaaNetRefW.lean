/- Layer 8, the reference: a net as a value: what makes another one of it. Conditions: the value's rows lie (RefNet). -/
import Derived.Test.YtndiclkfincbgaaNetRef
namespace Go.Proofs.Ytndiclkfincbgaa.Net
set_option linter.unusedSimpArgs false
set_option linter.unusedVariables false
open Go.RowKit
section
variable {w w' : World} {G : List Nat} {v : Value} {s : NS} {W : Option Addr} {c : Nat} {ws : List Way}
/-- the ways behind With -/
def without (ws : List Way) (a b : Int) : List Way := ws.filter fun z => !z.is a b
theorem without_take (ws : List Way) (a b : Int) (k : Nat) (hk : k < ws.length) : without (ws.take (k + 1)) a b = without (ws.take k) a b ++ (if (ws[k]).is a b then [] else [ws[k]]) := by
  unfold without
  rw [List.take_succ_eq_append_getElem hk, List.filter_append]
  cases h : (ws[k]).is a b <;> simp [h]
structure WithRel (w2 : World) (a b : Int) (x : Way) (ws : List Way) (k : Nat) (u : Value) (wr : World) : Prop where
  row : ∃ J B d, u = .slice B ((without (ws.take k) a b).length + 1) d ∧ Vec wr J 3 B ((without (ws.take k) a b).length + 1) d (x.cells ++ (without (ws.take k) a b).flatMap Way.cells) ∧ ∀ j, j ∈ J → w2.heap.size ≤ j
  below : Below w2.heap.size w2 wr
theorem WithRel.skip {w2 wr : World} {a b : Int} {x : Way} {k : Nat} {u : Value} (h : WithRel w2 a b x ws k u wr) (hk : k < ws.length) (hi : (ws[k]).is a b = true) : WithRel w2 a b x ws (k + 1) u wr := by
  have e : without (ws.take (k + 1)) a b = without (ws.take k) a b := by rw [without_take ws a b k hk, hi]; simp
  obtain ⟨J, B, d, h1, h2, h3⟩ := h.row
  exact ⟨⟨J, B, d, by rw [e]; exact h1, by rw [e]; exact h2, h3⟩, h.below⟩
theorem WithRel.put {w2 wr w5 : World} {a b : Int} {x : Way} {k : Nat} {J F5 : List Nat} {A5 : Option Addr} {c5 : Nat} {o : Obj} (hb : Below w2.heap.size w2 wr) (hJ : ∀ j, j ∈ J → w2.heap.size ≤ j)
    (hv : Vec w5 F5 3 A5 ((without (ws.take k) a b).length + 1 + 1) c5 (x.cells ++ (without (ws.take k) a b).flatMap Way.cells ++ (ws.getD k x).cells)) (ht : Turns J F5 (wr.alloc o) w5) (hk : k < ws.length) (hi : (ws[k]).is a b = false) : WithRel w2 a b x ws (k + 1) (.slice A5 ((without (ws.take k) a b).length + 1 + 1) c5) w5 := by
  have e : without (ws.take (k + 1)) a b = without (ws.take k) a b ++ [ws[k]] := by rw [without_take ws a b k hk, hi]; simp
  have hg : ws.getD k x = ws[k] := by rw [List.getD_eq_getElem?_getD, List.getElem?_eq_getElem hk]; rfl
  rw [hg] at hv
  have hs := hb.size
  obtain ⟨k1, k2⟩ := ht.below (B := w2.heap.size) (by simp; omega) hJ
  refine ⟨⟨F5, A5, c5, by rw [e]; simp, ?_, k2⟩, (hb.alloc hs o).trans k1⟩
  rw [e]
  simpa using hv
theorem three_set {w : World} {g : Nat} {T : TypeId} {o0 o1 o2 : Value} (h : w.heap[g]? = some (.cells #[o0, o1, o2] T (0, 0))) (a0 a1 a2 : Value) :
    (((w.setCell ⟨g, 0, none⟩ a0).setCell ⟨g, 1, none⟩ a1).setCell ⟨g, 2, none⟩ a2).heap[g]? = some (.cells #[a0, a1, a2] T (0, 0)) ∧ Kept [g] w (((w.setCell ⟨g, 0, none⟩ a0).setCell ⟨g, 1, none⟩ a1).setCell ⟨g, 2, none⟩ a2) := by
  refine ⟨?_, ((((Kept.refl _ _).setCell (.inl (by simp)) _).setCell (.inl (by simp)) _).setCell (.inl (by simp)) _)⟩
  have k := set_block (set_block (set_block h 0 a0) 1 a1) 2 a2
  simpa using k
def WithSaid (w : World) (G K : List Nat) (s : NS) (a b : Int) (xs : List ByteArray) (n : Nat) (e : Ending) (w' : World) : Prop :=
  ∃ v' W' c' ws' G', e = .returned v' ∧ RefNet w' G' v' (s.set a b xs) W' c' ws' ∧ ws'.length ≤ n + 1 ∧ (∀ k, k ∈ G' → k ∈ G ∨ k ∈ K ∨ w.heap.size ≤ k) ∧ Below w.heap.size w w'
theorem with_end (h : RefNet w G v s W c ws) {a b : Int} {A : Option Addr} {d : Nat} {xs : List ByteArray} {K : List Nat} (hxs : Vec w K 1 A xs.length d (xs.map .string)) (hok : (s.set a b xs).Ok)
    {J : List Nat} {B : Option Addr} {d' : Nat} (hb : Below w.heap.size w w') (hJ : Vec w' J 3 B ((without ws a b).length + 1) d' ((⟨a, b, A, d, xs⟩ : Way).cells ++ (without ws a b).flatMap Way.cells)) (hJn : ∀ j, j ∈ J → w.heap.size ≤ j) :
    WithSaid w G K s a b xs ws.length (.returned (.agg #[.int .i64 (s.n : Int), .int .i64 (s.m : Int), .slice B ((without ws a b).length + 1) d'])) w' := by
  have hsub : ∀ x, x ∈ without ws a b → x ∈ ws ∧ ¬ (x.a = a ∧ x.b = b) := fun x hx => by
    have := List.mem_filter.1 hx
    refine ⟨this.1, ?_⟩
    have h2 := this.2
    simp only [Way.is, Bool.not_eq_true', decide_eq_false_iff_not] at h2
    exact h2
  refine ⟨_, B, d', ⟨a, b, A, d, xs⟩ :: without ws a b, G ++ K ++ J, rfl, ⟨rfl, ⟨J, hJ, fun k hk => by simp [hk]⟩, ?_, ?_, ?_, hok, ?_⟩, ?_, ?_, hb⟩
  · intro x hx
    rcases List.mem_cons.1 hx with rfl | hx
    · exact ⟨K, hxs.after hb, fun k hk => by simp [hk]⟩
    · obtain ⟨H, h1, h2⟩ := h.rows x (hsub x hx).1
      exact ⟨H, h1.after hb, fun k hk => by simp [h2 k hk]⟩
  · intro x y
    show (if Way.is ⟨a, b, A, d, xs⟩ x y then xs else rowOf (without ws a b) x y) = (s.set a b xs).f x y
    by_cases hxy : x = a ∧ y = b
    · obtain ⟨rfl, rfl⟩ := hxy
      rw [if_pos (by simp [Way.is]), NS.set_same]
    · rw [if_neg (by simp only [Way.is, decide_eq_true_eq]; omega), NS.set_other _ _ _ _ _ _ hxy, ← h.f x y]
      exact rowOf_filter ws a b x y hxy
  · intro x hx
    rcases List.mem_cons.1 hx with rfl | hx
    · exact NS.set_same _ _ _ _
    · rw [NS.set_other _ _ _ _ _ _ (hsub x hx).2]; exact h.own x (hsub x hx).1
  · intro k hk
    simp only [List.mem_append] at hk
    rcases hk with (hk | hk) | hk
    · exact Nat.lt_of_lt_of_le (h.lt k hk) hb.size
    · exact Nat.lt_of_lt_of_le (hxs.lt hk) hb.size
    · exact hJ.lt hk
  · have : (without ws a b).length ≤ ws.length := List.length_filter_le _ _
    simp; omega
  · intro k hk
    simp only [List.mem_append] at hk
    rcases hk with (hk | hk) | hk
    · exact .inl hk
    · exact .inr (.inl hk)
    · exact .inr (.inr (hJn k hk))
set_option maxRecDepth 100000 in
set_option maxHeartbeats 8000000 in
theorem ref_with (h : RefNet w G v s W c ws) (a b : Int) {A : Option Addr} {d : Nat} {xs : List ByteArray} {K : List Nat} (hxs : Vec w K 1 A xs.length d (xs.map .string)) (hok : (s.set a b xs).Ok) (hl : ws.length ≤ 1000) :
    Calls Try.prog 29 #[v, .int .i64 a, .int .i64 b, .slice A xs.length d] w (WithSaid w G K s a b xs ws.length) := by
  obtain ⟨i0, hi0, hz0, hz1, hz2⟩ := info_parts way_info
  have hv := h.v
  subst hv
  obtain ⟨w2, hw2⟩ : ∃ w2, (w.alloc (.cells #[.int .i64 (s.n : Int), .int .i64 (s.m : Int), .slice W ws.length c] 29)).alloc (.cells #[.int .i64 0, .int .i64 0, .slice none 0 0] 29) = w2 := ⟨_, rfl⟩
  have hsz2 : w.heap.size + 2 = w2.heap.size := by rw [← hw2]; simp
  have hb2 : Below w.heap.size w w2 := by rw [← hw2]; exact ((Below.refl _ _).alloc (Nat.le_refl _) _).alloc (by simp) _
  have q0 : w2.heap[w.heap.size]? = some (.cells #[.int .i64 (s.n : Int), .int .i64 (s.m : Int), .slice W ws.length c] 29 (0, 0)) := by
    rw [← hw2, Below.heap_alloc _ _ _ (by simp)]; exact heap_alloc_new w _
  have q1 : w2.heap[w.heap.size + 1]? = some (.cells #[.int .i64 0, .int .i64 0, .slice none 0 0] 29 (0, 0)) := by
    rw [← hw2]; exact heap_new_at _ _ _ (by simp)
  have hst : WithRel w2 a b ⟨a, b, A, d, xs⟩ ws 0 (.slice (some ⟨w.heap.size + 1 + 1, 0, none⟩) 1 1) (w2.alloc (.cells #[.int .i64 a, .int .i64 b, .slice A xs.length d] 62)) := by
    have hv := Vec.of_new (w := w2.alloc (.cells #[.int .i64 a, .int .i64 b, .slice A xs.length d] 62)) (g := w2.heap.size) #[.int .i64 a, .int .i64 b, .slice A xs.length d] 3 1 1 (Nat.le_refl _) (by unfold maxLen; omega) (by simp) (heap_alloc_new w2 _)
    have e1 : (without (ws.take 0) a b) = [] := rfl
    exact ⟨⟨[w2.heap.size], _, 1, by rw [e1, show w.heap.size + 1 + 1 = w2.heap.size from hsz2]; rfl, by rw [e1]; exact hv, by simp⟩, (Below.refl _ _).alloc (Nat.le_refl _) _⟩
  have H := Lib.hid (h.after hb2)
  have H0 := Lib.hid h
  have HX := Lib.hid hxs
  have HOK := Lib.hid hok
  have HST := Lib.hid hst
  have HQ0 := Lib.hid q0
  have HQ1 := Lib.hid q1
  have HB2 := Lib.hid hb2
  have HW2 := Lib.hid hw2
  have hszA : w.heap.size + 2 ≤ w2.heap.size := by omega
  have hszB : w2.heap.size ≤ w.heap.size + 2 := by omega
  clear h hxs hok hst q0 q1 hb2 hw2 hsz2
  go_enter Try.func29, Try.ntmps29
  go_wp2_with fail
  rw [HW2.out]
  go_loopw [9, 10] (fun u i wr => ∃ k : Nat, k ≤ ws.length ∧ i = .int .i64 (k : Int) ∧ WithRel w2 a b ⟨a, b, A, d, xs⟩ ws k u wr) (fun _ i _ => ws.length - (intOf i).toNat)
  case atStart => exact ⟨0, Nat.zero_le _, rfl, HST.out⟩
  case round =>
    obtain ⟨k, hk, rfl, hr⟩ := hrel
    have HR := Lib.hid hr
    have hbr := hr.below
    have hbx := (hbr.block w.heap.size (by omega)).trans HQ0.out
    have b0 := cell_of_block hbx 0
    have b1 := cell_of_block hbx 1
    have b2 := cell_of_block hbx 2
    simp at b0 b1 b2
    have HBX := Lib.hid hbx
    have HBR := Lib.hid hbr
    clear hr hbr hbx
    have hnl : (without (ws.take k) a b).length ≤ 1000 := by
      have h1 : (without (ws.take k) a b).length ≤ (ws.take k).length := List.length_filter_le _ _
      rw [List.length_take] at h1; omega
    by_cases hlt : k < ws.length
    · obtain ⟨g, o, rfl, hg, hat⟩ := (H.out.after HBR.out).way hlt
      obtain ⟨c0, c1, c2⟩ := hat
      have HI := Lib.hid (show ∀ z, ws[k] = z → (ws[k]).is a b = z.is a b from fun z e => by rw [e])
      have HGD := Lib.hid (show ∀ z, ws[k] = z → ws.getD k ⟨a, b, A, d, xs⟩ = z from fun z e => by rw [List.getD_eq_getElem?_getD, List.getElem?_eq_getElem hlt, ← e]; rfl)
      generalize hz : ws[k] = z at c0 c1 c2
      have HZ := Lib.hid hz
      clear hz
      have i0' : (0 : Int) ≤ (k : Int) := by omega
      have i1 : (k : Int) < (ws.length : Int) := by omega
      by_cases q1 : z.a = a
      · by_cases q2 : z.b = b
        · have HS := Lib.hid (HR.out.skip hlt (by rw [HI.out z HZ.out]; simp [Way.is, q1, q2]))
          have d1 : (z.a != a) = false := by simp [q1]
          have d2 : (z.b != b) = false := by simp [q2]
          clear q1 q2
          go_wp2_with fail
          go_roundw
          case rel => exact ⟨k + 1, by omega, by go_num, HS.out⟩
          case measure => simp [intOf]; omega
        · have HF := Lib.hid (show (ws[k]).is a b = false from by rw [HI.out z HZ.out]; simp [Way.is, q2])
          have d1 : (z.a != a) = false := by simp [q1]
          have d2 : (z.b != b) = true := by simp [q2]
          clear q1 q2
          obtain ⟨J, B, d5, rfl, hv5, hJ5⟩ := HR.out.row
          have HV5 := Lib.hid hv5
          have HJ5 := Lib.hid hJ5
          clear hv5 hJ5
          go_wp2_with (at_builtin; (refine wpList_append_vec _ (by rfl) _ _ _ _ (by rfl) 62 i0 _ 3 40 Try.underlying27 hi0 hz0 hz1 hz2 rfl J B ((without (ws.take k) a b).length + 1) d5 ((⟨a, b, A, d, xs⟩ : Way).cells ++ (without (ws.take k) a b).flatMap Way.cells) (.slice (some ⟨wr.heap.size, 0, none⟩) 1 1) 1 [.int .i64 z.a, .int .i64 z.b, .slice z.A z.xs.length z.c] (by rfl) (by rfl) (by exact HV5.out.alloc _) (by exact src_new _ Try.underlying27 [.int .i64 z.a, .int .i64 z.b, .slice z.A z.xs.length z.c] 3 1 1 rfl (by simp [Value.oneCell']) _ (heap_alloc_new wr _)) (by unfold maxLen; omega) (by omega) ?_; intro v6 w6 happ; obtain ⟨F6, A6, c6, rfl, hv6, ht6⟩ := happ.all))
          have hp := WithRel.put HBR.out HJ5.out (by rw [HGD.out z HZ.out]; exact hv6) ht6 hlt HF.out
          go_roundw
          case rel => exact ⟨k + 1, by omega, by go_num, hp⟩
          case measure => simp [intOf]; omega
      · have HF := Lib.hid (show (ws[k]).is a b = false from by rw [HI.out z HZ.out]; simp [Way.is, q1])
        have d1 : (z.a != a) = true := by simp [q1]
        clear q1
        obtain ⟨J, B, d5, rfl, hv5, hJ5⟩ := HR.out.row
        have HV5 := Lib.hid hv5
        have HJ5 := Lib.hid hJ5
        clear hv5 hJ5
        go_wp2_with (at_builtin; (refine wpList_append_vec _ (by rfl) _ _ _ _ (by rfl) 62 i0 _ 3 40 Try.underlying27 hi0 hz0 hz1 hz2 rfl J B ((without (ws.take k) a b).length + 1) d5 ((⟨a, b, A, d, xs⟩ : Way).cells ++ (without (ws.take k) a b).flatMap Way.cells) (.slice (some ⟨wr.heap.size, 0, none⟩) 1 1) 1 [.int .i64 z.a, .int .i64 z.b, .slice z.A z.xs.length z.c] (by rfl) (by rfl) (by exact HV5.out.alloc _) (by exact src_new _ Try.underlying27 [.int .i64 z.a, .int .i64 z.b, .slice z.A z.xs.length z.c] 3 1 1 rfl (by simp [Value.oneCell']) _ (heap_alloc_new wr _)) (by unfold maxLen; omega) (by omega) ?_; intro v6 w6 happ; obtain ⟨F6, A6, c6, rfl, hv6, ht6⟩ := happ.all))
        have hp := WithRel.put HBR.out HJ5.out (by rw [HGD.out z HZ.out]; exact hv6) ht6 hlt HF.out
        go_roundw
        case rel => exact ⟨k + 1, by omega, by go_num, hp⟩
        case measure => simp [intOf]; omega
    · obtain rfl : k = ws.length := by omega
      obtain ⟨J, B, d5, rfl, hv5, hJ5⟩ := HR.out.row
      rw [List.take_length] at hv5
      rw [List.take_length] at hnl ⊢
      have hrs := (HBR.out.block (w.heap.size + 1) (by omega)).trans HQ1.out
      have r0 := cell_of_block hrs 0
      have r1 := cell_of_block hrs 1
      have r2 := cell_of_block hrs 2
      simp at r0 r1 r2
      have f0 := frozen_of_block hrs 0
      have f1 := frozen_of_block hrs 1
      have f2 := frozen_of_block hrs 2
      have f3 := frozen_of_block HBX.out 2
      have HRS := Lib.hid hrs
      have HV5 := Lib.hid hv5
      have HJ5 := Lib.hid hJ5
      clear hrs hv5 hJ5
      go_wp2_with fail
      have q := three_set ((set_other (w := wr) (p := ⟨w.heap.size, 2, none⟩) (g := w.heap.size + 1) (by simp) (.slice B ((without ws a b).length + 1) d5)).trans HRS.out) (.int .i64 (s.n : Int)) (.int .i64 (s.m : Int)) (.slice B ((without ws a b).length + 1) d5)
      have hkf := ((Kept.refl _ wr).setCell (p := ⟨w.heap.size, 2, none⟩) (L := [w.heap.size, w.heap.size + 1]) (.inl (by simp)) (.slice B ((without ws a b).length + 1) d5)).trans (q.2.mono (by simp))
      refine ret_row1 Try.results29 (w.heap.size + 1) _ _ _ rfl q.1 Try.underlying29 rfl (by kernel_rfl) rfl ?_
      have hbw : Below w.heap.size w wr := HB2.out.trans (HBR.out.mono (by omega))
      refine with_end H0.out HX.out HOK.out (hbw.trans (hkf.below hbw.size (by simp))) (HV5.out.kept hkf fun j hj => ?_) fun j hj => ?_
      · have := HJ5.out j hj; simp; omega
      · have := HJ5.out j hj; omega
end
end Go.Proofs.Ytndiclkfincbgaa.Net
