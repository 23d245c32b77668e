/- Layer 8: the walk of NetCounts. Conditions: the slice of acts lies in memory that came in. -/
import Derived.Test.YtndiclkfincbgaaActs08
namespace Go.Proofs.Ytndiclkfincbgaa.Net
set_option linter.unusedSimpArgs false
set_option linter.unusedVariables false
open Go.RowKit
theorem good_ne {s : NS} {a b : Int} (h : s.good a b = true) : ¬ (b = a ∧ a = b) := by
  simp only [NS.good, decide_eq_true_eq] at h
  omega
theorem send_len {s : NS} (a b : Int) (t : ByteArray) : ((s.send a b t).f a b).length = (s.f a b).length + (if s.sendOk a b then 1 else 0) ∧ ((s.send a b t).f b a).length = (s.f b a).length := by
  unfold NS.send
  cases hs : s.sendOk a b
  · exact ⟨rfl, rfl⟩
  · rw [if_pos rfl, if_pos rfl, NS.set_same]
    have hg : s.good a b = true := by simp only [NS.sendOk, Bool.and_eq_true] at hs; exact hs.1
    rw [NS.set_other _ _ _ _ _ _ (good_ne hg)]
    exact ⟨by simp, rfl⟩
/-- how many there are behind an act -/
theorem act_len {s : NS} (h : s.Ok) (a : Act8) : (((s.act a).f a.A a.B).length : Int) = ((s.f a.A a.B).length : Int) + (if s.actOk a = true ∧ (a.K = 0 ∨ a.K = 2) then 1 else 0) - (if s.actOk a = true ∧ a.K = 1 then 1 else 0) ∧ ((s.act a).f a.B a.A).length = (s.f a.B a.A).length := by
  obtain ⟨K, A, B, N, X, S⟩ := a
  simp only [NS.act, NS.actOk]
  by_cases h0 : K = 0
  · subst h0
    obtain ⟨k1, k2⟩ := send_len (s := s) A B S
    simp only [if_true]
    refine ⟨?_, k2⟩
    rw [k1]
    cases s.sendOk A B <;> simp
  · by_cases h1 : K = 1
    · subst h1
      simp only [if_neg h0, if_true]
      unfold NS.deliver
      cases hk : s.isAt A B N
      · simp
      · rw [if_pos rfl, NS.set_same, NS.set_other _ _ _ _ _ _ (good_ne (NS.isAt_good h hk))]
        simp only [NS.isAt, decide_eq_true_eq] at hk
        rw [List.length_eraseIdx_of_lt (by omega)]
        refine ⟨?_, rfl⟩
        simp
        omega
    · by_cases h2 : K = 2
      · subst h2
        simp only [if_neg h0, if_neg h1, if_true]
        unfold NS.double NS.doubleOk
        cases hk : s.isAt A B N
        · simp
        · rw [if_pos rfl]
          obtain ⟨k1, k2⟩ := send_len (s := s) A B (s.look A B N)
          refine ⟨?_, k2⟩
          rw [k1]
          cases s.sendOk A B <;> simp
      · simp only [if_neg h0, if_neg h1, if_neg h2]
        unfold NS.flip
        cases hk : s.flipOk A B N
        · simp
        · rw [if_pos rfl, NS.set_same, NS.set_other _ _ _ _ _ _ (good_ne (NS.isAt_good h (by simp only [NS.flipOk, Bool.and_eq_true] at hk; exact hk.1)))]
          simp [h0, h1, h2]
/-- a net that the call made, and an act in a box -/
structure Hold (w0 : World) (p : Nat) (s : NS) (b : Nat) (a : Act8) (w : World) : Prop where
  all : ∃ F, Stand w0 p s F w ∧ b ∉ F
  box : w.heap[b]? = some (.cells a.cells.toArray 32 (0, 0))
theorem Hold.step {w0 w w' : World} {p b : Nat} {s s' : NS} {a : Act8} {F F' : List Nat} (h : Stand w0 p s F w) (hb : b ∉ F) (hx : w.heap[b]? = some (.cells a.cells.toArray 32 (0, 0))) (hn : NetIs w' p F' s') (ht : Turns F F' w w') : Hold w0 p s' b a w' := by
  have hl := lt_of_block hx
  exact ⟨⟨F', h.step hn ht, fun hm => (ht.new b hm).elim hb (fun h1 => by omega)⟩, (ht.kept.block b hl hb).trans hx⟩
theorem Hold.drew {w0 w : World} {p b : Nat} {s : NS} {a : Act8} (h : Hold w0 p s b a w) : Hold w0 p s b a w.drew := by
  obtain ⟨⟨F, hs, hb⟩, hx⟩ := h
  exact ⟨⟨F, ⟨hs.net.drew, hs.new, below_drewN hs.below 1⟩, hb⟩, hx⟩
structure CountRel (w : World) (p m : Nat) (wr : World) : Prop where
  all : ∃ s F, Stand w p s F wr ∧ s.Small ∧ s.m = m
theorem act_m (s : NS) (a : Act8) : (s.act a).m = s.m := by
  have hs : ∀ a b t, (s.send a b t).m = s.m := fun a b t => by unfold NS.send; split <;> rfl
  unfold NS.act NS.deliver NS.double NS.flip
  repeat (first | rfl | exact hs _ _ _ | split)
set_option maxRecDepth 100000 in
set_option maxHeartbeats 8000000 in
theorem counts_walk (n room : Int) (A : Option Addr) (c : Nat) (l : List Act8) (w : World) (hA : Sl w 0 w.heap.size 6 A l.length (l.flatMap Act8.cells)) (hy : l.length ≤ maxLen) :
    Calls Try.prog 5 #[.int .i64 n, .int .i64 room, .slice A l.length c] w fun e w' => e = .returned (.bool true) ∧ Below w.heap.size w w' := by
  have hy' := hy
  unfold maxLen at hy
  obtain ⟨M, hM⟩ : ∃ M, max room 0 = M := ⟨_, rfl⟩
  have hmx : ∀ (ts : Array TypeId) (t : TypeId) (v : World), (Builtin.max_ ts t #[.int .i64 room, .int .i64 0]).run Try.prog v = .ok (.int .i64 M) v := fun ts t v => by
    rw [← hM]
    simp only [Builtin.max_, Builtin.max2, List.foldlM_cons, List.foldlM_nil]
    simp
    omega
  have hmM : ((clampN room 1000 : Nat) : Int) ≤ M := by unfold clampN; omega
  have HMM := Lib.hid hmM
  clear hM hmM
  go_enter Try.func5, Try.ntmps5
  go_wp2_with fail
  refine (new_any n room _).mono ?_
  rintro e w1 ⟨p, F, rfl, hn, hF, hb⟩
  have HS := Lib.hid (show Stand w p (new n room) F w1 from ⟨hn, hF, hb⟩)
  clear hn hF hb
  go_wp2_with fail
  refine (awake_any _).mono ?_
  rintro e w2 ⟨rfl, hb2⟩
  have HS := Lib.hid (HS.out.after (HS.out.net.after hb2) hb2)
  clear hb2
  go_wp2_with fail
  refine (few_any (hA.below HS.out.below (Nat.le_refl _)) hy').mono ?_
  rintro e w3 ⟨⟨b0, rfl, hfew⟩, rfl⟩
  have HFEW := Lib.hid hfew
  clear hfew
  cases b0
  · go_wp2_with fail
    refine (awake_any _).mono ?_
    rintro e w3 ⟨rfl, hb3⟩
    have HS3 := Lib.hid (HS.out.after (HS.out.net.after hb3) hb3)
    clear hb3
    go_wp2_with fail
    go_ret
    exact ⟨rfl, HS3.out.below⟩
  · obtain ⟨h60, hshort⟩ := HFEW.out rfl
    have HSHORT := Lib.hid hshort
    have hrel : CountRel w p (clampN room 1000) w2 := ⟨_, F, HS.out, fun _ _ _ h => by simp [new] at h, rfl⟩
    have HREL := Lib.hid hrel
    clear hshort hrel
    generalize clampN room 1000 = m at *
    go_wp2_with fail
    go_loopw [8] (fun i wr => ∃ k : Nat, k ≤ l.length ∧ i = .int .i64 (k : Int) ∧ CountRel w p m wr) (fun i _ => l.length - (intOf i).toNat)
    case atStart => exact ⟨0, Nat.zero_le _, rfl, HREL.out⟩
    case round =>
      obtain ⟨k, hk, rfl, hr⟩ := hrel
      obtain ⟨s, F, hst, hsm, hsmm⟩ := hr.all
      have HST := Lib.hid hst
      have HSM := Lib.hid hsm
      have HSMM := Lib.hid hsmm
      clear hr hst hsm hsmm
      by_cases hlt : k < l.length
      · have hA1 := hA.below HST.out.below (Nat.le_refl _)
        obtain ⟨g, o, rfl, _, hgl, hat⟩ := acts_at hA1 hlt
        have i0' : (0 : Int) ≤ (k : Int) := by omega
        have i1 : (k : Int) < (l.length : Int) := by omega
        have hsh := HSHORT.out l[k] (List.getElem_mem hlt)
        have HAT := Lib.hid hat
        clear hat
        generalize l[k] = a at *
        obtain ⟨K, A, B, N, X, S⟩ := a
        obtain ⟨c0, c1, c2, c3, c4, c5⟩ := HAT.out
        simp only at c0 c1 c2 c3 c4 c5 hsh
        have hho : Hold w p s wr.heap.size ⟨K, A, B, N, X, S⟩ (wr.alloc (.cells #[.int .i64 K, .int .i64 A, .int .i64 B, .int .i64 N, .int .i64 X, .string S] 32)) :=
          ⟨⟨F, HST.out.after (HST.out.net.after ((Below.refl _ _).alloc (Nat.le_refl _) _)) ((Below.refl _ _).alloc (Nat.le_refl _) _), fun hm => by have := HST.out.net.lt hm; omega⟩, heap_alloc_new wr _⟩
        have HHO := Lib.hid hho
        have HSH := Lib.hid hsh
        clear hho hsh
        go_wp2_with fail
        clear c0 c1 c2 c3 c4 c5
        obtain ⟨b, hbb⟩ : ∃ b, wr.heap.size = b := ⟨_, rfl⟩
        rw [hbb] at HHO ⊢
        clear hbb
        refine' wp_flow [only 0 _, only 1 _, only 2 _, only 3 _, only 4 _, only 5 (.int .i64 ((s.f A B).length : Int)), only 6 _, only 7 _, only 8 _, only 9 _, only 10 _, only 11 (.int .i64 ((s.f B A).length : Int)), only 12 _, only 13 _] (fun v => Hold w p s b ⟨K, A, B, N, X, S⟩ v) [[], [], [1], [], [3], [0, 2, 4], [], [], [7], [], [9], [6, 8, 10], [5], [11]] [[], [], [], [], [], [], [], [], [], [], [], [], [], []] [[], [], [], [], [], [], [], [], [], [], [], [], [], []] [[], [], [], [], [], [], [], [], [], [], [], [], [], []] [] [0, 0, 2, 0, 8, 31, 0, 0, 128, 0, 512, 2047, 4095, 4095] _ (fun us => ?hfr) (by kernel_rfl) (by kernel_rfl) (by kernel_rfl) ⟨only_still _, only_still _, only_still _, only_still _, only_still _, only_still _, only_still _, only_still _, only_still _, only_still _, only_still _, only_still _, only_still _, only_still _, trivial⟩ (HHO.out.drew) (by simp) (trivial) ?hst ?hla
        case hfr => (simp only [List.cons_append, List.nil_append, putAll, Act.put, List.setIfInBounds_toArray, List.set_cons_zero, List.set_cons_succ, Nat.reduceAdd]; rfl)
        case hst =>
          refine ⟨?_, ?_, ?_, ?_, ?_, ?_, ?_, ?_, ?_, ?_, ?_, ?_, ?_, ?_, trivial⟩
          · intro us v hR hn ho K hK
            clear ho
            obtain ⟨Fv, hv1, hv2⟩ := hR.all; have a1 := cell_of_block hR.box 1; have a2 := cell_of_block hR.box 2; simp [Act8.cells] at a1 a2
            rw [if_pos (by rfl)]
            go_simp
            refine hK _ _ _ (by simp only [Act.put, List.setIfInBounds_toArray, List.set_cons_zero, List.set_cons_succ, Nat.reduceAdd] <;> rfl) ?_ hR trivial
            refine only_mk (v := v) ?_
            with_reducible rfl
          · intro us v hR hn ho K hK
            clear ho
            obtain ⟨Fv, hv1, hv2⟩ := hR.all; have a1 := cell_of_block hR.box 1; have a2 := cell_of_block hR.box 2; simp [Act8.cells] at a1 a2
            rw [if_pos (by rfl)]
            go_simp
            refine hK _ _ _ (by simp only [Act.put, List.setIfInBounds_toArray, List.set_cons_zero, List.set_cons_succ, Nat.reduceAdd] <;> rfl) ?_ hR trivial
            refine only_mk (v := v) ?_
            with_reducible rfl
          · intro us v hR hn ho K hK
            obtain ⟨n1, -⟩ := hn
            have n1 : us 1 = _ := n1
            clear ho
            obtain ⟨Fv, hv1, hv2⟩ := hR.all; have a1 := cell_of_block hR.box 1; have a2 := cell_of_block hR.box 2; simp [Act8.cells] at a1 a2
            rw [if_pos (by rfl)]
            go_simp
            refine hK _ _ _ (by simp only [Act.put, List.setIfInBounds_toArray, List.set_cons_zero, List.set_cons_succ, Nat.reduceAdd, n1] <;> rfl) ?_ hR trivial
            refine only_mk (v := v) ?_
            with_reducible rfl
          · intro us v hR hn ho K hK
            clear ho
            obtain ⟨Fv, hv1, hv2⟩ := hR.all; have a1 := cell_of_block hR.box 1; have a2 := cell_of_block hR.box 2; simp [Act8.cells] at a1 a2
            rw [if_pos (by rfl)]
            go_simp
            refine hK _ _ _ (by simp only [Act.put, List.setIfInBounds_toArray, List.set_cons_zero, List.set_cons_succ, Nat.reduceAdd] <;> rfl) ?_ hR trivial
            refine only_mk (v := v) ?_
            with_reducible rfl
          · intro us v hR hn ho K hK
            obtain ⟨n3, -⟩ := hn
            have n3 : us 3 = _ := n3
            clear ho
            obtain ⟨Fv, hv1, hv2⟩ := hR.all; have a1 := cell_of_block hR.box 1; have a2 := cell_of_block hR.box 2; simp [Act8.cells] at a1 a2
            rw [if_pos (by rfl)]
            go_simp
            refine hK _ _ _ (by simp only [Act.put, List.setIfInBounds_toArray, List.set_cons_zero, List.set_cons_succ, Nat.reduceAdd, n3] <;> rfl) ?_ hR trivial
            refine only_mk (v := v) ?_
            with_reducible rfl
          · intro us v hR hn ho K hK
            obtain ⟨n0, n2, n4, -⟩ := hn
            have n0 : us 0 = _ := n0
            have n2 : us 2 = _ := n2
            have n4 : us 4 = _ := n4
            clear ho
            obtain ⟨Fv, hv1, hv2⟩ := hR.all; have a1 := cell_of_block hR.box 1; have a2 := cell_of_block hR.box 2; simp [Act8.cells] at a1 a2
            rw [if_pos (by rfl)]
            go_simp
            refine (count_any hv1.net A B).mono ?_
            rintro e v' ⟨rfl, F5, hn5, ht5⟩
            dsimp only
            exact hK _ _ _ (by simp only [Act.put, List.setIfInBounds_toArray, List.set_cons_zero, List.set_cons_succ, Nat.reduceAdd, n0, n2, n4] <;> rfl) rfl (Hold.step hv1 hv2 hR.box hn5 ht5) trivial
          · intro us v hR hn ho K hK
            clear ho
            obtain ⟨Fv, hv1, hv2⟩ := hR.all; have a1 := cell_of_block hR.box 1; have a2 := cell_of_block hR.box 2; simp [Act8.cells] at a1 a2
            rw [if_pos (by rfl)]
            go_simp
            refine hK _ _ _ (by simp only [Act.put, List.setIfInBounds_toArray, List.set_cons_zero, List.set_cons_succ, Nat.reduceAdd] <;> rfl) ?_ hR trivial
            refine only_mk (v := v) ?_
            with_reducible rfl
          · intro us v hR hn ho K hK
            clear ho
            obtain ⟨Fv, hv1, hv2⟩ := hR.all; have a1 := cell_of_block hR.box 1; have a2 := cell_of_block hR.box 2; simp [Act8.cells] at a1 a2
            rw [if_pos (by rfl)]
            go_simp
            refine hK _ _ _ (by simp only [Act.put, List.setIfInBounds_toArray, List.set_cons_zero, List.set_cons_succ, Nat.reduceAdd] <;> rfl) ?_ hR trivial
            refine only_mk (v := v) ?_
            with_reducible rfl
          · intro us v hR hn ho K hK
            obtain ⟨n7, -⟩ := hn
            have n7 : us 7 = _ := n7
            clear ho
            obtain ⟨Fv, hv1, hv2⟩ := hR.all; have a1 := cell_of_block hR.box 1; have a2 := cell_of_block hR.box 2; simp [Act8.cells] at a1 a2
            rw [if_pos (by rfl)]
            go_simp
            refine hK _ _ _ (by simp only [Act.put, List.setIfInBounds_toArray, List.set_cons_zero, List.set_cons_succ, Nat.reduceAdd, n7] <;> rfl) ?_ hR trivial
            refine only_mk (v := v) ?_
            with_reducible rfl
          · intro us v hR hn ho K hK
            clear ho
            obtain ⟨Fv, hv1, hv2⟩ := hR.all; have a1 := cell_of_block hR.box 1; have a2 := cell_of_block hR.box 2; simp [Act8.cells] at a1 a2
            rw [if_pos (by rfl)]
            go_simp
            refine hK _ _ _ (by simp only [Act.put, List.setIfInBounds_toArray, List.set_cons_zero, List.set_cons_succ, Nat.reduceAdd] <;> rfl) ?_ hR trivial
            refine only_mk (v := v) ?_
            with_reducible rfl
          · intro us v hR hn ho K hK
            obtain ⟨n9, -⟩ := hn
            have n9 : us 9 = _ := n9
            clear ho
            obtain ⟨Fv, hv1, hv2⟩ := hR.all; have a1 := cell_of_block hR.box 1; have a2 := cell_of_block hR.box 2; simp [Act8.cells] at a1 a2
            rw [if_pos (by rfl)]
            go_simp
            refine hK _ _ _ (by simp only [Act.put, List.setIfInBounds_toArray, List.set_cons_zero, List.set_cons_succ, Nat.reduceAdd, n9] <;> rfl) ?_ hR trivial
            refine only_mk (v := v) ?_
            with_reducible rfl
          · intro us v hR hn ho K hK
            obtain ⟨n6, n8, n10, -⟩ := hn
            have n6 : us 6 = _ := n6
            have n8 : us 8 = _ := n8
            have n10 : us 10 = _ := n10
            clear ho
            obtain ⟨Fv, hv1, hv2⟩ := hR.all; have a1 := cell_of_block hR.box 1; have a2 := cell_of_block hR.box 2; simp [Act8.cells] at a1 a2
            rw [if_pos (by rfl)]
            go_simp
            refine (count_any hv1.net B A).mono ?_
            rintro e v' ⟨rfl, F5, hn5, ht5⟩
            dsimp only
            exact hK _ _ _ (by simp only [Act.put, List.setIfInBounds_toArray, List.set_cons_zero, List.set_cons_succ, Nat.reduceAdd, n6, n8, n10] <;> rfl) rfl (Hold.step hv1 hv2 hR.box hn5 ht5) trivial
          · intro us v hR hn ho K hK
            obtain ⟨n5, -⟩ := hn
            have n5 : us 5 = _ := n5
            clear ho
            obtain ⟨Fv, hv1, hv2⟩ := hR.all; have a1 := cell_of_block hR.box 1; have a2 := cell_of_block hR.box 2; simp [Act8.cells] at a1 a2
            rw [if_pos (by rfl)]
            go_simp
            refine hK _ _ _ (by simp only [Act.put, List.setIfInBounds_toArray, List.set_cons_zero, List.set_cons_succ, Nat.reduceAdd, n5] <;> rfl) ?_ hR trivial
            refine only_mk (v := v) ?_
            with_reducible rfl
          · intro us v hR hn ho K hK
            obtain ⟨n11, -⟩ := hn
            have n11 : us 11 = _ := n11
            clear ho
            obtain ⟨Fv, hv1, hv2⟩ := hR.all; have a1 := cell_of_block hR.box 1; have a2 := cell_of_block hR.box 2; simp [Act8.cells] at a1 a2
            rw [if_pos (by rfl)]
            go_simp
            refine hK _ _ _ (by simp only [Act.put, List.setIfInBounds_toArray, List.set_cons_zero, List.set_cons_succ, Nat.reduceAdd, n11] <;> rfl) ?_ hR trivial
            refine only_mk (v := v) ?_
            with_reducible rfl
        case hla =>
          intro us v hR hl
          obtain ⟨n0, n1, n2, n3, n4, n5, n6, n7, n8, n9, n10, n11, n12, n13, -⟩ := need_last hl [0, 1, 2, 3, 4, 5, 6, 7, 8, 9, 10, 11, 12, 13] (by kernel_rfl)
          have n0 : us 0 = _ := n0
          have n1 : us 1 = _ := n1
          have n2 : us 2 = _ := n2
          have n3 : us 3 = _ := n3
          have n4 : us 4 = _ := n4
          have n5 : us 5 = _ := n5
          have n6 : us 6 = _ := n6
          have n7 : us 7 = _ := n7
          have n8 : us 8 = _ := n8
          have n9 : us 9 = _ := n9
          have n10 : us 10 = _ := n10
          have n11 : us 11 = _ := n11
          have n12 : us 12 = _ := n12
          have n13 : us 13 = _ := n13
          obtain ⟨Fv, hv1, hv2⟩ := hR.all; have a1 := cell_of_block hR.box 1; have a2 := cell_of_block hR.box 2; simp [Act8.cells] at a1 a2
          simp only [n0, n1, n2, n3, n4, n5, n6, n7, n8, n9, n10, n11, n12, n13]
          clear hl n0 n1 n2 n3 n4 n5 n6 n7 n8 n9 n10 n11 n12 n13
          obtain ⟨F5, hs5, hb5⟩ := hR.all
          have HS5 := Lib.hid hs5
          have HB5 := Lib.hid hb5
          have HX5 := Lib.hid hR.box
          have x0 := cell_of_block hR.box 0
          have x1 := cell_of_block hR.box 1
          have x2 := cell_of_block hR.box 2
          have x3 := cell_of_block hR.box 3
          have x4 := cell_of_block hR.box 4
          have x5 := cell_of_block hR.box 5
          simp [Act8.cells] at x0 x1 x2 x3 x4 x5
          clear hs5 hb5 hR
          go_wp2_with fail
          refine (act_any HS5.out.net HSM.out ⟨K, A, B, N, X, S⟩).mono ?_
          rintro e w6 ⟨rfl, F6, hn6, ht6⟩
          have hh6 := Hold.step HS5.out HB5.out HX5.out hn6 ht6
          have HH6 := Lib.hid hh6
          obtain ⟨q1, q2⟩ := act_len HS5.out.net.ok ⟨K, A, B, N, X, S⟩
          have hcap := hn6.ok.room A B
          rw [act_m, HSMM.out] at hcap
          have HCAP := Lib.hid hcap
          have HSM6 := Lib.hid (HSM.out.act ⟨K, A, B, N, X, S⟩ HSH.out)
          have HSMM6 := Lib.hid ((act_m s ⟨K, A, B, N, X, S⟩).trans HSMM.out)
          have Q1 := Lib.hid q1
          have Q2 := Lib.hid q2
          clear x0 x1 x2 x3 x4 x5 hn6 ht6 hh6 hcap q1 q2
          have y0 := cell_of_block HH6.out.box 0
          have y1 := cell_of_block HH6.out.box 1
          have y2 := cell_of_block HH6.out.box 2
          simp [Act8.cells] at y0 y1 y2
          generalize s.actOk ⟨K, A, B, N, X, S⟩ = ok at *
          generalize s.actS ⟨K, A, B, N, X, S⟩ = ss at *
          have hgo : ∀ m' : World, Hold w p (s.act ⟨K, A, B, N, X, S⟩) b ⟨K, A, B, N, X, S⟩ m' → CountRel w p m m' := fun m' h => by
            obtain ⟨F7, h7, _⟩ := h.all
            exact ⟨_, F7, h7, HSM6.out, HSMM6.out⟩
          have HGO := Lib.hid hgo
          clear hgo
          obtain ⟨n1, hn1⟩ : ∃ n1, ((s.act ⟨K, A, B, N, X, S⟩).f A B).length = n1 := ⟨_, rfl⟩
          obtain ⟨n0, hn0⟩ : ∃ n0, (s.f A B).length = n0 := ⟨_, rfl⟩
          have HN1 := Lib.hid hn1
          have hq1 := Q1.out
          simp only at hq1
          rw [hn1, hn0] at hq1
          have hcp := HCAP.out
          rw [hn1] at hcp
          have hmm := HMM.out
          have d8 : decide ((M : Int) < (n1 : Int)) = false := by simp; omega
          have d9 : decide ((n1 : Int) < 0) = false := by simp
          clear hcp hmm hn1
          have hcase : (ok = false ∧ (n1 : Int) = (n0 : Int)) ∨ (ok = true ∧ K = 0 ∧ (n1 : Int) = (n0 : Int) + 1) ∨ (ok = true ∧ K = 2 ∧ (n1 : Int) = (n0 : Int) + 1) ∨ (ok = true ∧ K = 1 ∧ (n1 : Int) = (n0 : Int) - 1) ∨ (ok = true ∧ (K == 0) = false ∧ (K == 1) = false ∧ (K == 2) = false ∧ (n1 : Int) = (n0 : Int)) := by
            cases ok
            · left; simp at hq1; exact ⟨rfl, by omega⟩
            · right
              by_cases k0 : K = 0
              · left; subst k0; simp at hq1; exact ⟨rfl, rfl, by omega⟩
              · by_cases k2 : K = 2
                · right; left; subst k2; simp at hq1; exact ⟨rfl, rfl, by omega⟩
                · by_cases k1 : K = 1
                  · right; right; left; subst k1; simp at hq1; exact ⟨rfl, rfl, by omega⟩
                  · right; right; right
                    simp [k0, k1, k2] at hq1
                    exact ⟨rfl, beq_eq_false_iff_ne.2 k0, beq_eq_false_iff_ne.2 k1, beq_eq_false_iff_ne.2 k2, by omega⟩
          have HCASE := Lib.hid hcase
          have hbig : n0 ≤ 1000 := by
            have h1 := HS5.out.net.ok.room A B
            have h2 := HS5.out.net.ok.m1000
            omega
          have HN0 := Lib.hid hn0
          clear hq1 hcase
          rw [hn0]
          clear hn0
          rcases HCASE.out with ⟨rfl, he⟩ | ⟨rfl, rfl, he⟩ | ⟨rfl, rfl, he⟩ | ⟨rfl, rfl, he⟩ | ⟨rfl, e0, e1, e2, he⟩
          all_goals
            have HE := Lib.hid he
            clear he
            obtain ⟨F6', hs6, hb6⟩ := HH6.out.all
            have HS6 := Lib.hid hs6
            have HB6 := Lib.hid hb6
            clear hs6 hb6
            go_wp2_with fail
            refine (count_any HS6.out.net A B).mono ?_
            rintro e w7 ⟨rfl, F7, hn7, ht7⟩
            rw [HN1.out]
            have hh7 := Hold.step HS6.out HB6.out HH6.out.box hn7 ht7
            have HH7 := Lib.hid hh7
            clear y0 y1 y2 hn7 ht7 hh7
            have y0 := cell_of_block HH7.out.box 0
            have y1 := cell_of_block HH7.out.box 1
            have y2 := cell_of_block HH7.out.box 2
            simp [Act8.cells] at y0 y1 y2
            obtain ⟨F7', hs7, hb7⟩ := HH7.out.all
            have HS7 := Lib.hid hs7
            have HB7 := Lib.hid hb7
            clear hs7 hb7
            rw [HE.out]
            rw [HE.out] at d8 d9
            go_wp2_with fail
            refine (count_any HS7.out.net B A).mono ?_
            rintro e w8 ⟨rfl, F8, hn8, ht8⟩
            rw [Q2.out]
            have HG := Lib.hid (HGO.out _ (Hold.step HS7.out HB7.out HH7.out.box hn8 ht8))
            clear y0 y1 y2 hn8 ht8
            go_wp2_with fail
            go_roundw
            case rel => exact ⟨k + 1, hlt, by go_num, HG.out⟩
            case measure => simp [intOf]; omega
      · obtain rfl : k = l.length := by omega
        go_wp2_with fail
        go_ret
        exact ⟨rfl, HST.out.below⟩
end Go.Proofs.Ytndiclkfincbgaa.Net
