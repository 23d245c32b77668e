/- Layer 10: the walk of PipeGoes. Conditions: the slice of acts lies in memory that came in; the table of layer 5 and the variable of package errors are laid. -/
import Derived.Test.YtihhflajkohibaaDoorPipeRow
import Derived.BigQuiet
namespace Go.Proofs.YtihhflajkohibaaDoor.Pipe
set_option linter.unusedSimpArgs false
set_option linter.unusedVariables false
set_option maxRecDepth 100000
open Go.RowKit
open Go.Proofs.YtihhflajkohibaaDoor
open Go.Proofs.YtihhflajkohibaaDoor.Link (LE Fr EndIs)
open Go.Proofs.YtihhflajkohibaaDoor.Net (NS NetIs)
/-- what stands between two acts -/
def GoesK (W m : Nat) (w : World) (p b1 b2 k : Nat) (wr : World) : Prop := ∃ (M : M10) (t : T10), M.p = p ∧ St10 w.heap.size M t [boxT b2 (M.tc t) 29, boxT b1 (M.wc t) 29] wr ∧ Below w.heap.size w wr ∧ Inv2 W m k t
theorem GoesK.after {W m : Nat} {w : World} {p b1 b2 k : Nat} {wr w' : World} (h : GoesK W m w p b1 b2 k wr) (hb : Below wr.heap.size wr w') : GoesK W m w p b1 b2 k w' := by
  obtain ⟨M, t, h1, h2, h3, h4⟩ := h
  exact ⟨M, t, h1, h2.after hb, h3.trans (hb.mono h2.le), h4⟩
def PS.goI (s : PS) (n : Int) : PS := if n = 0 then s.go false else if n = 1 then s.go true else s
def PS.goN (s : PS) (n : Int) : Nat := if n = 0 then (s.gone false).2 else if n = 1 then (s.gone true).2 else 0
section
variable {B : Nat} {M : M10} {t : T10} {X : List Thing} {w : World} {W m k : Nat}
theorem St10.rowAny (h : St10 B M t X w) (d : Int) : Calls Tryd.prog 23 #[.pointer (some ⟨M.p, 0, none⟩), .int .i64 d] w (RowSaid B M t X (t.s.rowI d) w) := by
  by_cases h0 : d = 0
  · subst h0; exact row_yes h false
  · by_cases h1 : d = 1
    · subst h1; exact row_yes h true
    · have : t.s.rowI d = [] := by unfold PS.rowI; rw [if_neg h0, if_neg h1]
      rw [this]
      refine row_no h d ?_
      cases hs : isSide d
      · rfl
      · rcases isSide_iff.1 hs with h | h
        · exact absurd h h0
        · exact absurd h h1
theorem St10.goAny (h : St10 B M t X w) (n : Int) : Calls Tryd.prog 16 #[.pointer (some ⟨M.p, 0, none⟩), .int .i64 n] w fun e w' => e = .returned (.int .i64 (t.s.goN n : Int)) ∧ ∃ F', St10 B { M with F := F' } (t.pipe (t.s.goI n)) X w' ∧ Below B w w' := by
  by_cases h0 : n = 0
  · subst h0; exact h.act (go_yes h.pipe h.env false)
  · by_cases h1 : n = 1
    · subst h1; exact h.act (go_yes h.pipe h.env true)
    · have e1 : t.s.goN n = 0 := by unfold PS.goN; rw [if_neg h0, if_neg h1]
      have e2 : t.s.goI n = t.s := by unfold PS.goI; rw [if_neg h0, if_neg h1]
      rw [e1, e2]
      refine (go_no _ n ?_ _).mono ?_
      · cases hs : isSide n
        · rfl
        · rcases isSide_iff.1 hs with h | h
          · exact absurd h h0
          · exact absurd h h1
      · rintro e w' ⟨rfl, rfl⟩
        exact ⟨rfl, M.F, h, Below.refl _ _⟩
theorem goes_win {x : LE} (hx : x.Ok) : x.goes.length ≤ x.window := by
  have h2 := hx.w1
  unfold LE.goes
  rw [List.length_append]
  unfold LE.datas LE.acks LE.most
  rw [List.length_map, List.length_range']
  split <;> simp <;> omega
theorem Inv2.goI (h : Inv2 W m k t) (hok : ∀ b, (t.s.e b).Ok) (n : Int) : Inv2 W m (k + 1) (t.pipe (t.s.goI n)) := by
  have h2 := h.more
  have one : ∀ me, Inv2 W m (k + 1) (t.pipe (t.s.go me)) := fun me => h.pipe (PS.short_go h.short) h2.gl (up_win h.win (h.win me)) ((t.s.go_row me).2.2.2.2.2.1.trans h.rm)
  unfold PS.goI
  split
  · exact one false
  · split
    · exact one true
    · exact h2
theorem wrap_other {n d : Int} (h0 : -9223372036854775808 ≤ n) (h1 : n ≤ 9223372036854775807) (hd : IntKind.i64.wrap (1 - n) = d) (hn0 : n ≠ 0) (hn1 : n ≠ 1) : d ≠ 0 ∧ d ≠ 1 := by
  rw [IntKind.wrap_i64] at hd
  omega
theorem go_facts (hi : Inv2 W m k t) (h : St10 B M t X w) (n : Int) (h0 : -9223372036854775808 ≤ n) (h1 : n ≤ 9223372036854775807) (d : Int) (hd : IntKind.i64.wrap (1 - n) = d) :
    ∃ L, (t.s.goI n).rowI d = t.s.rowI d ++ L ∧ L.length = t.s.goN n ∧ t.s.goN n ≤ W ∧ ((t.s.goI n).rowI d).length ≤ m := by
  have hok := h.pipe.netOk
  have one : ∀ me : Bool, n = no me → d = no (!me) → ∃ L, (t.s.goI n).rowI d = t.s.rowI d ++ L ∧ L.length = t.s.goN n ∧ t.s.goN n ≤ W ∧ ((t.s.goI n).rowI d).length ≤ m := by
    intro me hn hd2
    subst hn
    obtain ⟨r1, r2, r3, r4, r5, r6, r7⟩ := t.s.go_row me
    have e1 : t.s.goI (no me) = t.s.go me := by cases me <;> rfl
    have e2 : t.s.goN (no me) = (t.s.gone me).2 := by cases me <;> rfl
    rw [e1, e2, hd2, rowI_no, rowI_no]
    have hw := hi.win me
    have hg := goes_win (h.ok me)
    have hroom : ((t.s.go me).n).Ok := by
      have : ∀ (l : List Fr) (x : NS × Nat), x.1.Ok → (ways (no me) (no (!me)) x l).1.Ok := by
        intro l
        induction l with
        | nil => intro x hx; exact hx
        | cons f l ih =>
          intro x hx
          refine ih _ ?_
          unfold way
          split
          · exact hx.send _ _ _
          · exact hx
      exact this _ _ hok
    refine ⟨t.s.news me, r1, r2, by omega, ?_⟩
    have := hroom.room (no (!(!me))) (no (!me))
    rw [r6, hi.rm] at this
    exact this
  by_cases c0 : n = 0
  · subst c0
    exact one false rfl (by rw [← hd]; rfl)
  · by_cases c1 : n = 1
    · subst c1
      exact one true rfl (by rw [← hd]; rfl)
    · obtain ⟨d0, d1⟩ := wrap_other h0 h1 hd c0 c1
      refine ⟨[], ?_, ?_, ?_, ?_⟩
      · unfold PS.rowI; rw [if_neg d0, if_neg d1, if_neg d0, if_neg d1]; rfl
      · unfold PS.goN; rw [if_neg c0, if_neg c1]; rfl
      · unfold PS.goN; rw [if_neg c0, if_neg c1]; omega
      · unfold PS.rowI; rw [if_neg d0, if_neg d1]; simp
end
set_option maxRecDepth 100000 in
set_option maxHeartbeats 16000000 in
theorem goes_walk (epoch first window queue wait room : Int) (hu : Link.u first = first) (A : Option Addr) (c : Nat) (l : List Act10) (w : World) (hA : Sl w 0 w.heap.size 5 A l.length (l.flatMap Act10.cells)) (hy : l.length ≤ maxLen) (hgood : ∀ a ∈ l, a.Good) (ht : TabAt w) (hg : Frame.ErrAt w) :
    Calls Tryd.prog 7 #[.int .i64 epoch, .int .u64 first, .int .i64 window, .int .i64 queue, .int .i64 wait, .int .i64 room, .slice A l.length c] w fun e w' => e = .returned (.bool true) ∧ Below w.heap.size w w' := by
  obtain ⟨WW, hWW⟩ : ∃ WW, Link.clampN window 1 8 = WW := ⟨_, rfl⟩
  obtain ⟨mm, hmm⟩ : ∃ mm, Net.clampN room 1000 = mm := ⟨_, rfl⟩
  have HWM := Lib.hid (show Inv2 WW mm 0 ⟨new epoch first window queue wait room, fun _ => [], fun _ => []⟩ ∧ (WW : Int) = min (max window 1) 8 ∧ (mm : Int) = min (max room 0) 1000 from by
    rw [← hWW, ← hmm]
    exact ⟨Inv2.start epoch first window queue wait room, by unfold Link.clampN; omega, by unfold Net.clampN; omega⟩)
  have HGOOD := Lib.hid hgood
  clear hWW hmm hgood
  have hy' := hy
  unfold maxLen at hy
  have HU := Lib.hid hu
  have HV := Lib.hid (Env.of ht hg)
  clear hu ht hg
  go_enter Tryd.func7, Tryd.ntmps7
  go_wp2_with fail
  refine (stand_new epoch first window queue wait room HU.out w _ (Below.refl _ _) HV.out).mono ?_
  rintro e w1 ⟨p, rfl, h1⟩
  have H0 := Lib.hid h1
  clear h1
  go_wp2_with fail
  refine (awake_any _ H0.out.env).mono ?_
  rintro e w2 ⟨rfl, hb⟩
  have H1 := Lib.hid (H0.out.after hb)
  clear hb
  go_wp2_with fail
  refine (few_any (hA.below H1.out.below (Nat.le_refl _)) hy').mono ?_
  rintro e w3 ⟨⟨b0, rfl, hfew⟩, rfl⟩
  have HFEW := Lib.hid hfew
  clear hfew
  cases b0
  · go_wp2_with fail
    refine (awake_any _ H1.out.env).mono ?_
    rintro e w3 ⟨rfl, hb⟩
    have H3 := Lib.hid (H1.out.after hb)
    clear hb
    go_wp2_with fail
    go_ret
    exact ⟨rfl, H3.out.below⟩
  · obtain ⟨h80, _⟩ := HFEW.out rfl
    obtain ⟨F, hst⟩ := St10.start H1.out
    have hst1 := hst.more (w' := w2.alloc (.cells zero2 29)) (o := boxT w2.heap.size zero2 29) ((Below.refl _ _).alloc (Nat.le_refl _) _) (heap_alloc_new w2 _) (boxT_local _ _ _) (fun j hj => by simp [boxT] at hj; omega)
    have hst2 := hst1.more (w' := (w2.alloc (.cells zero2 29)).alloc (.cells zero2 29)) (o := boxT (w2.heap.size + 1) zero2 29) ((Below.refl _ _).alloc (Nat.le_refl _) _) (heap_new_at _ _ _ (by simp)) (boxT_local _ _ _) (fun j hj => by simp [boxT] at hj; simp; omega)
    have hbl : Below w.heap.size w ((w2.alloc (.cells zero2 29)).alloc (.cells zero2 29)) := H1.out.below.trans ((((Below.refl _ _).alloc (Nat.le_refl _) _).alloc (by simp) _).mono H1.out.env.le)
    have HOK := Lib.hid (show GoesK WW mm w p w2.heap.size (w2.heap.size + 1) 0 ((w2.alloc (.cells zero2 29)).alloc (.cells zero2 29)) from ⟨_, _, rfl, hst2, hbl, HWM.out.1⟩)
    unfold zero2 at HOK
    have hi2 := info_parts Link.str_info
    clear hst hst1 hst2 hbl
    go_wp2_with fail
    go_loopw [18] (fun i wr => ∃ k : Nat, k ≤ l.length ∧ i = .int .i64 (k : Int) ∧ GoesK WW mm w p w2.heap.size (w2.heap.size + 1) k wr) (fun i _ => l.length - (intOf i).toNat)
    case atStart => exact ⟨0, Nat.zero_le _, rfl, HOK.out⟩
    case round =>
      obtain ⟨k, hk, rfl, M, t, hMp, hs, hb, hi⟩ := hrel
      subst hMp
      obtain ⟨W, hW⟩ : ∃ W, M.wc t = W := ⟨_, rfl⟩
      obtain ⟨T, hT⟩ : ∃ T, M.tc t = T := ⟨_, rfl⟩
      rw [hW, hT] at hs
      have HWT := Lib.hid (And.intro hW hT)
      have HS := Lib.hid hs
      have HB := Lib.hid hb
      have HI := Lib.hid hi
      clear hs hi hW hT
      by_cases hlt : k < l.length
      · obtain ⟨g, o, rfl, _, hgl, hat⟩ := acts_at hA hlt
        have i0' : (0 : Int) ≤ (k : Int) := by omega
        have i1 : (k : Int) < (l.length : Int) := by omega
        have hga : l[k].Good := HGOOD.out _ (List.getElem_mem _)
        generalize l[k] = a at *
        have HAT := Lib.hid hat
        have hk100 : k ≤ 100 := by omega
        obtain ⟨d, hd⟩ : ∃ d, IntKind.i64.wrap (1 - a.Side) = d := ⟨_, rfl⟩
        have HFAC := Lib.hid (go_facts HI.out HS.out a.Side hga.2.1 hga.2.2 d hd)
        obtain ⟨x0, x1, x2, x3, x4⟩ := HAT.out.of_below HB.out hgl
        clear hat hb hk hga
        go_wp2_with fail
        refine (HS.out.rowAny d).mono ?_
        obtain ⟨was, hwas⟩ : ∃ was, t.s.rowI d = was := ⟨_, rfl⟩
        rw [hwas]
        have HWAS := Lib.hid hwas
        clear hwas
        rintro e w4 ⟨arr1, F1, rfl, h4, hb4⟩
        have HS4 := Lib.hid h4
        have HB4 := Lib.hid (HB.out.trans hb4)
        clear h4 hb4 x0 x1 x2 x3 x4
        obtain ⟨x0, x1, x2, x3, x4⟩ := HAT.out.of_below HB4.out hgl
        by_cases hK : a.K = 1
        · have hq1 : (a.K == 1) = true := beq_iff_eq.2 hK
          clear hK
          go_wp2_with fail
          refine (HS4.out.goAny a.Side).mono ?_
          obtain ⟨L, f1, f2, f3, f4⟩ := HFAC.out
          obtain ⟨n, hn⟩ : ∃ n, t.s.goN a.Side = n := ⟨_, rfl⟩
          obtain ⟨s2, hs2⟩ : ∃ s2, t.s.goI a.Side = s2 := ⟨_, rfl⟩
          rw [hn] at f2 f3 ⊢
          rw [hs2] at f1 f4 ⊢
          have HI2 := Lib.hid (show Inv2 WW mm (k + 1) (t.pipe s2) from by rw [← hs2]; exact HI.out.goI HS.out.ok a.Side)
          rw [HWAS.out] at f1
          rintro e w5 ⟨rfl, F5, h5, hb5⟩
          have h5 : St10 w.heap.size { M with F := F5 } (t.pipe s2) [txT arr1 was, boxT (w2.heap.size + 1) T 29, boxT w2.heap.size W 29] w5 := h5
          have HS5 := Lib.hid h5
          have HB5 := Lib.hid (HB4.out.trans hb5)
          have HF := Lib.hid (And.intro f1 (And.intro f2 (And.intro f3 f4)))
          clear h5 hb5 hn hs2 f1 f2 f3 f4 x0 x1 x2 x3 x4
          obtain ⟨x0, x1, x2, x3, x4⟩ := HAT.out.of_below HB5.out hgl
          go_wp2_with fail
          refine (HS5.out.rowAny d).mono ?_
          rw [show (t.pipe s2).s.rowI d = was ++ L from HF.out.1]
          rintro e w6 ⟨arr2, F6, rfl, h6, hb6⟩
          have h6 : St10 w.heap.size { M with F := F6 } (t.pipe s2) [txT arr2 (was ++ L), txT arr1 was, boxT (w2.heap.size + 1) T 29, boxT w2.heap.size W 29] w6 := h6
          have hvn : Vec w6 arr2.F 1 arr2.A (was ++ L).length arr2.c ((was ++ L).map .string) := h6.x 0 rfl
          have hvw : Vec w6 arr1.F 1 arr1.A was.length arr1.c (was.map .string) := h6.x 1 rfl
          obtain ⟨nw, hnw⟩ : ∃ nw, (was ++ L).length = nw := ⟨_, rfl⟩
          obtain ⟨ws, hws⟩ : ∃ ws, was.length = ws := ⟨_, rfl⟩
          have hlen : nw = ws + n := by rw [← hnw, ← hws, List.length_append, HF.out.2.1]
          have hnm : nw ≤ mm := by rw [← hnw, ← HF.out.1]; exact HF.out.2.2.2
          have hm1000 := HWM.out.2.2
          have hw8 := HWM.out.2.1
          have hnW := HF.out.2.2.1
          obtain ⟨W1, hW1⟩ : ∃ W1 : Int, (if window < 1 then (1 : Int) else window) = W1 := ⟨_, rfl⟩
          obtain ⟨R1, hR1⟩ : ∃ R1 : Int, (if room < 0 then (0 : Int) else room) = R1 := ⟨_, rfl⟩
          have hW2 : (if (8 : Int) < W1 then 8 else W1) = (WW : Int) := by
            rw [hw8, ← hW1]; split <;> split at * <;> omega
          have hR2 : (if (1000 : Int) < R1 then 1000 else R1) = (mm : Int) := by
            rw [hm1000, ← hR1]; split <;> split at * <;> omega
          have c0 : decide (WW < n) = false := by simp; omega
          have c1 : ((nw : Int) != (ws : Int) + (n : Int)) = false := by simp; omega
          have c2 : decide (mm < nw) = false := by simp; omega
          have hvt := vec_take hvn (k := was.length) (by rw [hnw, hws]; omega)
          rw [← List.map_take, List.take_left] at hvt
          have j1 : (ws : Int) ≤ (arr2.c : Int) := by have := hvn.le; omega
          have j0 : (0 : Int) ≤ (ws : Int) := by omega
          have hws1 : ws ≤ 1000 := by omega
          have hn1 : n ≤ 1000 := by omega
          have HV := Lib.hid (And.intro hvt hvw)
          have HWS := Lib.hid hws
          have HNEXT := Lib.hid (show GoesK WW mm w M.p w2.heap.size (w2.heap.size + 1) (k + 1) w6 from ⟨{ M with F := F6 }, t.pipe s2, rfl, by
            have h7 := h6.drop (Y := [txT arr2 (was ++ L), txT arr1 was])
            rw [← HWT.out.1, ← HWT.out.2] at h7
            exact h7, HB5.out.trans hb6, HI2.out⟩)
          rw [hnw, hws]
          unfold sl
          clear h6 hb6 hvn hvw hnw hvt hlen hnm hm1000 hw8 hnW hws x0 x1 x2 x3 x4
          go_wp2_with fail
          have htx := Link.texts_is HV.out.1 HV.out.2 (by rw [HWS.out]; omega)
          rw [HWS.out] at htx
          refine htx.mono ?_
          clear htx
          rintro e w7 ⟨rfl, nn, rfl⟩
          have HN7 := Lib.hid (HNEXT.out.after (below_drewN (Below.refl _ _) nn))
          go_wp2_with fail
          go_roundw
          case rel => exact ⟨k + 1, hlt, by go_num, HN7.out⟩
          case measure => simp [intOf]; omega
        · have hq1 : (a.K == 1) = false := beq_eq_false_iff_ne.2 hK
          have HSD := Lib.hid (HS4.out.drop (Y := [txT arr1 was]))
          have HBD := HB4
          clear hK
          go_wp2_with fail
          clear x0 x1 x2 x3 x4 hq1
          refine' wp_flow [only 0 _, only 1 _, only 2 _, only 3 _, only 4 (.agg #[.int .i64 a.K, .int .i64 a.Side, .int .i64 a.N, .int .i64 a.X, .string a.S]), only 5 (.agg W), only 6 (.agg T), (fun us v => ∃ (M' : M10) (t' : T10) (ok : Bool), M'.p = M.p ∧ us 7 = .tuple #[.agg (M'.wc t'), .agg (M'.tc t'), .bool ok] ∧ St10 w.heap.size M' t' [boxT (w2.heap.size + 1) T 29, boxT w2.heap.size W 29] v ∧ Inv2 WW mm (k + 1) t' ∧ (ok = false → (a.Side = 0 ∨ a.Side = 1) ∧ Inv2 WW mm k t')), (fun us _ => us 8 = us 7 ∧ ∃ a b c, us 7 = .tuple #[a, b, c]), (fun us _ => ∀ a b c, us 7 = .tuple #[a, b, c] → us 9 = a), (fun us _ => ∀ a b c, us 7 = .tuple #[a, b, c] → us 10 = b), (fun us _ => ∀ a b c, us 7 = .tuple #[a, b, c] → us 11 = c), (fun us v => ∃ (M' : M10) (t' : T10) (ok : Bool), M'.p = M.p ∧ us 7 = .tuple #[.agg (M'.wc t'), .agg (M'.tc t'), .bool ok] ∧ St10 w.heap.size M' t' [boxT (w2.heap.size + 1) T 29, boxT w2.heap.size (M'.wc t') 29] v ∧ Inv2 WW mm (k + 1) t' ∧ (ok = false → (a.Side = 0 ∨ a.Side = 1) ∧ Inv2 WW mm k t')), (fun us v => ∃ (M' : M10) (t' : T10) (ok : Bool), M'.p = M.p ∧ us 7 = .tuple #[.agg (M'.wc t'), .agg (M'.tc t'), .bool ok] ∧ St10 w.heap.size M' t' [boxT (w2.heap.size + 1) (M'.tc t') 29, boxT w2.heap.size (M'.wc t') 29] v ∧ Inv2 WW mm (k + 1) t' ∧ (ok = false → (a.Side = 0 ∨ a.Side = 1) ∧ Inv2 WW mm k t')), (fun us _ => us 14 = us 11), (fun _ v => St10 w.heap.size { M with F := F1 } t [boxT (w2.heap.size + 1) T 29, boxT w2.heap.size W 29] v)] (fun v => Below w.heap.size w v) [[], [], [], [1, 2], [3], [15], [15], [0, 4, 5, 6, 15], [7], [8], [8], [8], [7, 9], [10, 12], [11]] [[], [], [], [], [], [], [], [15], [], [], [], [], [7], [12], []] [[], [], [], [], [], [], [], [], [], [], [], [], [], [], []] [[15], [15], [15], [15], [15], [15], [15], [], [7], [7, 8, 10, 11], [7, 8, 9, 11, 12], [7, 8, 9, 10, 12, 13], [8, 9, 10, 11], [8, 9, 10, 11], [8, 9, 10, 11, 13]] [7, 8, 9, 10, 11, 12, 13, 14, 15] [0, 0, 0, 6, 14, 0, 0, 127, 255, 511, 511, 511, 1023, 6143, 16383] _ (fun us => ?hfr) (by kernel_rfl) (by kernel_rfl) (by kernel_rfl) ⟨only_still _, only_still _, only_still _, only_still _, only_still _, only_still _, only_still _, trivial, trivial, trivial, trivial, trivial, trivial, trivial, trivial, trivial, trivial⟩ (below_drewN HBD.out 1) (by simp) (HSD.out.after (below_drewN (Below.refl _ _) 1)) ?hst ?hla
          case hfr => (simp only [List.cons_append, List.nil_append, putAll, Act.put, List.setIfInBounds_toArray, List.set_cons_zero, List.set_cons_succ, Nat.reduceAdd]; rfl)
          case hst =>
            refine ⟨?_, ?_, ?_, ?_, ?_, ?_, ?_, ?_, ?_, ?_, ?_, ?_, ?_, ?_, ?_, trivial⟩
            · intro us v hR hn ho K hK
              clear ho
              obtain ⟨x0, x1, x2, x3, x4⟩ := HAT.out.of_below hR hgl
              rw [if_pos (by rfl)]
              go_simp
              refine hK _ _ _ (by simp only [Act.put, List.setIfInBounds_toArray, List.set_cons_zero, List.set_cons_succ, Nat.reduceAdd] <;> rfl) ?_ hR ⟨fun h => h, trivial⟩
              refine only_mk (v := v) ?_
              with_reducible rfl
            · intro us v hR hn ho K hK
              clear ho
              obtain ⟨x0, x1, x2, x3, x4⟩ := HAT.out.of_below hR hgl
              rw [if_pos (by rfl)]
              go_simp
              refine hK _ _ _ (by simp only [Act.put, List.setIfInBounds_toArray, List.set_cons_zero, List.set_cons_succ, Nat.reduceAdd] <;> rfl) ?_ hR ⟨fun h => h, trivial⟩
              refine only_mk (v := v) ?_
              with_reducible rfl
            · intro us v hR hn ho K hK
              clear ho
              obtain ⟨x0, x1, x2, x3, x4⟩ := HAT.out.of_below hR hgl
              rw [if_pos (by rfl)]
              go_simp
              refine hK _ _ _ (by simp only [Act.put, List.setIfInBounds_toArray, List.set_cons_zero, List.set_cons_succ, Nat.reduceAdd] <;> rfl) ?_ hR ⟨fun h => h, trivial⟩
              refine only_mk (v := v) ?_
              with_reducible rfl
            · intro us v hR hn ho K hK
              obtain ⟨n1, n2, -⟩ := hn
              have n1 : us 1 = _ := n1
              have n2 : us 2 = _ := n2
              clear ho
              obtain ⟨x0, x1, x2, x3, x4⟩ := HAT.out.of_below hR hgl
              rw [if_pos (by rfl)]
              go_simp
              refine hK _ _ _ (by simp only [Act.put, List.setIfInBounds_toArray, List.set_cons_zero, List.set_cons_succ, Nat.reduceAdd, n1, n2] <;> rfl) ?_ hR ⟨fun h => h, trivial⟩
              refine only_mk (v := v) ?_
              with_reducible rfl
            · intro us v hR hn ho K hK
              obtain ⟨n3, -⟩ := hn
              have n3 : us 3 = _ := n3
              clear ho
              obtain ⟨x0, x1, x2, x3, x4⟩ := HAT.out.of_below hR hgl
              rw [if_pos (by rfl)]
              go_simp
              refine hK _ _ _ (by simp only [Act.put, List.setIfInBounds_toArray, List.set_cons_zero, List.set_cons_succ, Nat.reduceAdd, n3] <;> rfl) ?_ hR ⟨fun h => h, trivial⟩
              refine only_mk (v := v) ?_
              with_reducible rfl
            · intro us v hR hn ho K hK
              obtain ⟨ns, -⟩ := hn
              clear ho
              obtain ⟨x0, x1, x2, x3, x4⟩ := HAT.out.of_below hR hgl
              have hbx := ns.x 1 rfl
              have hcs : (Tryd.prog.info? 29).map (·.size) = some W.size := by rw [← HWT.out.1]; kernel_rfl
              rw [if_pos (by rfl)]
              refine wp_load_row 29 _ (by rfl) w2.heap.size (by rfl) 29 W (0, 0) _ hbx Tryd.underlying29 rfl hcs ?_
              refine hK _ _ _ (by simp only [Act.put, List.setIfInBounds_toArray, List.set_cons_zero, List.set_cons_succ, Nat.reduceAdd] <;> rfl) ?_ hR ⟨fun h => h, trivial⟩
              exact only_mk (v := v) rfl
            · intro us v hR hn ho K hK
              obtain ⟨ns, -⟩ := hn
              clear ho
              obtain ⟨x0, x1, x2, x3, x4⟩ := HAT.out.of_below hR hgl
              have hbx := ns.x 0 rfl
              have hcs : (Tryd.prog.info? 29).map (·.size) = some T.size := by rw [← HWT.out.2]; kernel_rfl
              rw [if_pos (by rfl)]
              refine wp_load_row 29 _ (by rfl) (w2.heap.size + 1) (by rfl) 29 T (0, 0) _ hbx Tryd.underlying29 rfl hcs ?_
              refine hK _ _ _ (by simp only [Act.put, List.setIfInBounds_toArray, List.set_cons_zero, List.set_cons_succ, Nat.reduceAdd] <;> rfl) ?_ hR ⟨fun h => h, trivial⟩
              exact only_mk (v := v) rfl
            · intro us v hR hn ho K hK
              obtain ⟨n0, n4, n5, n6, ns, -⟩ := hn
              have n0 : us 0 = _ := n0
              have n4 : us 4 = _ := n4
              have n5 : us 5 = _ := n5
              have n6 : us 6 = _ := n6
              clear ho
              obtain ⟨x0, x1, x2, x3, x4⟩ := HAT.out.of_below hR hgl
              have hpl := play_any2 ns HI.out hk100 a
              rw [show M10.wc { M with F := F1 } t = W from HWT.out.1, show M10.tc { M with F := F1 } t = T from HWT.out.2] at hpl
              simp only [Act10.cells] at hpl
              rw [if_pos (by rfl)]
              clear x0 x1 x2 x3 x4
              have HPLY := Lib.hid hpl
              clear hpl
              go_simp
              refine (HPLY.out).mono ?_
              rintro e v' ⟨M', t', ok, hp, rfl, hs', hb', hi', hq'⟩
              dsimp only
              exact hK _ _ _ (by simp only [Act.put, List.setIfInBounds_toArray, List.set_cons_zero, List.set_cons_succ, Nat.reduceAdd, n0, n4, n5, n6] <;> rfl) ⟨M', t', ok, hp, rfl, hs', hi', hq'⟩ (hR.trans hb') trivial
            · intro us v hR hn ho K hK
              obtain ⟨n7, -⟩ := hn
              clear ho
              obtain ⟨x0, x1, x2, x3, x4⟩ := HAT.out.of_below hR hgl
              obtain ⟨M', t', ok, hp, n7, hs', hi', hq'⟩ := id n7
              rw [if_pos (by rfl)]
              go_simp
              exact hK _ _ _ (by simp only [Act.put, List.setIfInBounds_toArray, List.set_cons_zero, List.set_cons_succ, Nat.reduceAdd, n7] <;> rfl) ⟨n7.symm, _, _, _, n7⟩ hR ⟨fun h => h, trivial⟩
            · intro us v hR hn ho K hK
              obtain ⟨n8, -⟩ := hn
              clear ho
              obtain ⟨x0, x1, x2, x3, x4⟩ := HAT.out.of_below hR hgl
              obtain ⟨e8, a7, b7, c7, n7⟩ := n8
              have n8 : us 8 = _ := e8.trans n7
              rw [if_pos (by rfl)]
              go_simp
              exact hK _ _ _ (by simp only [Act.put, List.setIfInBounds_toArray, List.set_cons_zero, List.set_cons_succ, Nat.reduceAdd, n7, n8] <;> rfl) (fun a b c h => (tup3 (n7.symm.trans h)).1) hR ⟨fun h => h, fun h => h, fun h => h, fun h => h, trivial⟩
            · intro us v hR hn ho K hK
              obtain ⟨n8, -⟩ := hn
              clear ho
              obtain ⟨x0, x1, x2, x3, x4⟩ := HAT.out.of_below hR hgl
              obtain ⟨e8, a7, b7, c7, n7⟩ := n8
              have n8 : us 8 = _ := e8.trans n7
              rw [if_pos (by rfl)]
              go_simp
              exact hK _ _ _ (by simp only [Act.put, List.setIfInBounds_toArray, List.set_cons_zero, List.set_cons_succ, Nat.reduceAdd, n7, n8] <;> rfl) (fun a b c h => (tup3 (n7.symm.trans h)).2.1) hR ⟨fun h => h, fun h => h, fun h => h, fun h => h, fun h => h, trivial⟩
            · intro us v hR hn ho K hK
              obtain ⟨n8, -⟩ := hn
              clear ho
              obtain ⟨x0, x1, x2, x3, x4⟩ := HAT.out.of_below hR hgl
              obtain ⟨e8, a7, b7, c7, n7⟩ := n8
              have n8 : us 8 = _ := e8.trans n7
              rw [if_pos (by rfl)]
              go_simp
              exact hK _ _ _ (by simp only [Act.put, List.setIfInBounds_toArray, List.set_cons_zero, List.set_cons_succ, Nat.reduceAdd, n7, n8] <;> rfl) (fun a b c h => (tup3 (n7.symm.trans h)).2.2) hR ⟨fun h => h, fun h => h, fun h => h, fun h => h, fun h => h, fun h => h, trivial⟩
            · intro us v hR hn ho K hK
              obtain ⟨n7, n9, -⟩ := hn
              clear ho
              obtain ⟨x0, x1, x2, x3, x4⟩ := HAT.out.of_below hR hgl
              obtain ⟨M', t', ok, hp, n7, hs', hi', hq'⟩ := n7
              have n9 : us 9 = _ := n9 _ _ _ n7
              rw [if_pos (by rfl)]
              refine wp_store_all 29 (.tmp 16) (.tmp 123) (by rfl) w2.heap.size W (M'.wc t') 29 (by rfl) n9 (hs'.x 1 rfl) (by rw [← HWT.out.1]; rfl) (by kernel_rfl) (two_one M' t').1 ?_
              intro v' hq hkk
              obtain ⟨k1, k2⟩ := hs'.boxAll 1 rfl hq hkk
              exact hK undef _ _ (by simp only [Act.put, List.setIfInBounds_toArray, List.set_cons_zero, List.set_cons_succ, Nat.reduceAdd, n9] <;> rfl) ⟨M', t', ok, hp, n7, k1, hi', hq'⟩ (hR.trans k2) ⟨fun h => h, fun h => h, fun h => h, fun h => h, trivial⟩
            · intro us v hR hn ho K hK
              obtain ⟨n10, n12, -⟩ := hn
              clear ho
              obtain ⟨x0, x1, x2, x3, x4⟩ := HAT.out.of_below hR hgl
              obtain ⟨M', t', ok, hp, n7, hs', hi', hq'⟩ := n12
              have n10 : us 10 = _ := n10 _ _ _ n7
              rw [if_pos (by rfl)]
              refine wp_store_all 29 (.tmp 17) (.tmp 124) (by rfl) (w2.heap.size + 1) T (M'.tc t') 29 (by rfl) n10 (hs'.x 0 rfl) (by rw [← HWT.out.2]; rfl) (by kernel_rfl) (two_one M' t').2 ?_
              intro v' hq hkk
              obtain ⟨k1, k2⟩ := hs'.boxAll 0 rfl hq hkk
              exact hK undef _ _ (by simp only [Act.put, List.setIfInBounds_toArray, List.set_cons_zero, List.set_cons_succ, Nat.reduceAdd, n10] <;> rfl) ⟨M', t', ok, hp, n7, k1, hi', hq'⟩ (hR.trans k2) ⟨fun h => h, fun h => h, fun h => h, fun h => h, trivial⟩
            · intro us v hR hn ho K hK
              obtain ⟨n11, -⟩ := hn
              clear ho
              obtain ⟨x0, x1, x2, x3, x4⟩ := HAT.out.of_below hR hgl
              rw [if_pos (by rfl)]
              go_simp
              exact hK _ _ _ (by simp only [Act.put, List.setIfInBounds_toArray, List.set_cons_zero, List.set_cons_succ, Nat.reduceAdd] <;> rfl) rfl hR ⟨fun h => h, fun h => h, fun h => h, fun h => h, fun h => h, trivial⟩
          case hla =>
            intro us v hR hl
            obtain ⟨n0, n1, n2, n3, n4, n5, n6, n8, n9, n10, n11, n13, n14, -⟩ := need_last hl [0, 1, 2, 3, 4, 5, 6, 8, 9, 10, 11, 13, 14] (by kernel_rfl)
            have n0 : us 0 = _ := n0
            have n1 : us 1 = _ := n1
            have n2 : us 2 = _ := n2
            have n3 : us 3 = _ := n3
            have n4 : us 4 = _ := n4
            have n5 : us 5 = _ := n5
            have n6 : us 6 = _ := n6
            obtain ⟨x0, x1, x2, x3, x4⟩ := HAT.out.of_below hR hgl
            simp only [n0, n1, n2, n3, n4, n5, n6]
            clear hl n0 n1 n2 n3 n4 n5 n6
            obtain ⟨M', t', ok, hp, n7, hs', hi', hq'⟩ := n13
            have n11 : us 11 = _ := n11 _ _ _ n7
            have n14 : us 14 = _ := n14.trans n11
            simp only [n14]
            have HS' := Lib.hid hs'
            have HB' := Lib.hid hR
            have HI' := Lib.hid hi'
            have HQ' := Lib.hid hq'
            have HMP := Lib.hid hp
            clear n7 n8 n9 n10 n11 n14 hs' hi' hR x0 x1 x2 x3 x4 hq' hp
            cases ok
            · obtain ⟨me, hme⟩ := side_of (HQ'.out rfl).1
              have HME := Lib.hid hme
              have HQ2 := Lib.hid (HQ'.out rfl).2
              clear hme
              go_wp2_with fail
              refine' wp_flow [only 0 _, only 1 _, only 2 _, only 3 _, only 4 _, only 5 (.int .i64 a.Side), only 6 _, only 7 _, only 8 _, only 9 _, only 10 (.int .i64 a.N), (fun _ v => GoesK WW mm w M.p w2.heap.size (w2.heap.size + 1) (k + 1) v), (fun _ v => St10 w.heap.size M' t' [boxT (w2.heap.size + 1) (M'.tc t') 29, boxT w2.heap.size (M'.wc t') 29] v)] (fun v => Below w.heap.size w v) [[], [], [], [1, 2], [3], [4], [], [], [6, 7], [8], [9], [0, 5, 10, 12]] [[], [], [], [], [], [], [], [], [], [], [], [12]] [[], [], [], [], [], [], [], [], [], [], [], []] [[12], [12], [12], [12], [12], [12], [12], [12], [12], [12], [12], []] [11, 12] [0, 0, 0, 6, 14, 30, 0, 0, 192, 448, 960, 2047] _ (fun us => ?hfr) (by kernel_rfl) (by kernel_rfl) (by kernel_rfl) ⟨only_still _, only_still _, only_still _, only_still _, only_still _, only_still _, only_still _, only_still _, only_still _, only_still _, only_still _, trivial, trivial, trivial⟩ (below_drewN HB'.out 1) (by simp) (HS'.out.after (below_drewN (Below.refl _ _) 1)) ?hst ?hla
              case hfr => (simp only [List.cons_append, List.nil_append, putAll, Act.put, List.setIfInBounds_toArray, List.set_cons_zero, List.set_cons_succ, Nat.reduceAdd]; rfl)
              case hst =>
                refine ⟨?_, ?_, ?_, ?_, ?_, ?_, ?_, ?_, ?_, ?_, ?_, ?_, trivial⟩
                · intro us v hR hn ho K hK
                  clear ho
                  obtain ⟨x0, x1, x2, x3, x4⟩ := HAT.out.of_below hR hgl
                  rw [if_pos (by rfl)]
                  go_simp
                  refine hK _ _ _ (by simp only [Act.put, List.setIfInBounds_toArray, List.set_cons_zero, List.set_cons_succ, Nat.reduceAdd] <;> rfl) ?_ hR ⟨fun h => h, trivial⟩
                  refine only_mk (v := v) ?_
                  with_reducible rfl
                · intro us v hR hn ho K hK
                  clear ho
                  obtain ⟨x0, x1, x2, x3, x4⟩ := HAT.out.of_below hR hgl
                  rw [if_pos (by rfl)]
                  go_simp
                  refine hK _ _ _ (by simp only [Act.put, List.setIfInBounds_toArray, List.set_cons_zero, List.set_cons_succ, Nat.reduceAdd] <;> rfl) ?_ hR ⟨fun h => h, trivial⟩
                  refine only_mk (v := v) ?_
                  with_reducible rfl
                · intro us v hR hn ho K hK
                  clear ho
                  obtain ⟨x0, x1, x2, x3, x4⟩ := HAT.out.of_below hR hgl
                  rw [if_pos (by rfl)]
                  go_simp
                  refine hK _ _ _ (by simp only [Act.put, List.setIfInBounds_toArray, List.set_cons_zero, List.set_cons_succ, Nat.reduceAdd] <;> rfl) ?_ hR ⟨fun h => h, trivial⟩
                  refine only_mk (v := v) ?_
                  with_reducible rfl
                · intro us v hR hn ho K hK
                  obtain ⟨n1, n2, -⟩ := hn
                  have n1 : us 1 = _ := n1
                  have n2 : us 2 = _ := n2
                  clear ho
                  obtain ⟨x0, x1, x2, x3, x4⟩ := HAT.out.of_below hR hgl
                  rw [if_pos (by rfl)]
                  go_simp
                  refine hK _ _ _ (by simp only [Act.put, List.setIfInBounds_toArray, List.set_cons_zero, List.set_cons_succ, Nat.reduceAdd, n1, n2] <;> rfl) ?_ hR ⟨fun h => h, trivial⟩
                  refine only_mk (v := v) ?_
                  with_reducible rfl
                · intro us v hR hn ho K hK
                  obtain ⟨n3, -⟩ := hn
                  have n3 : us 3 = _ := n3
                  clear ho
                  obtain ⟨x0, x1, x2, x3, x4⟩ := HAT.out.of_below hR hgl
                  rw [if_pos (by rfl)]
                  go_simp
                  refine hK _ _ _ (by simp only [Act.put, List.setIfInBounds_toArray, List.set_cons_zero, List.set_cons_succ, Nat.reduceAdd, n3] <;> rfl) ?_ hR ⟨fun h => h, trivial⟩
                  refine only_mk (v := v) ?_
                  with_reducible rfl
                · intro us v hR hn ho K hK
                  obtain ⟨n4, -⟩ := hn
                  have n4 : us 4 = _ := n4
                  clear ho
                  obtain ⟨x0, x1, x2, x3, x4⟩ := HAT.out.of_below hR hgl
                  rw [if_pos (by rfl)]
                  go_simp
                  refine hK _ _ _ (by simp only [Act.put, List.setIfInBounds_toArray, List.set_cons_zero, List.set_cons_succ, Nat.reduceAdd, n4] <;> rfl) ?_ hR ⟨fun h => h, trivial⟩
                  refine only_mk (v := v) ?_
                  with_reducible rfl
                · intro us v hR hn ho K hK
                  clear ho
                  obtain ⟨x0, x1, x2, x3, x4⟩ := HAT.out.of_below hR hgl
                  rw [if_pos (by rfl)]
                  go_simp
                  refine hK _ _ _ (by simp only [Act.put, List.setIfInBounds_toArray, List.set_cons_zero, List.set_cons_succ, Nat.reduceAdd] <;> rfl) ?_ hR ⟨fun h => h, trivial⟩
                  refine only_mk (v := v) ?_
                  with_reducible rfl
                · intro us v hR hn ho K hK
                  clear ho
                  obtain ⟨x0, x1, x2, x3, x4⟩ := HAT.out.of_below hR hgl
                  rw [if_pos (by rfl)]
                  go_simp
                  refine hK _ _ _ (by simp only [Act.put, List.setIfInBounds_toArray, List.set_cons_zero, List.set_cons_succ, Nat.reduceAdd] <;> rfl) ?_ hR ⟨fun h => h, trivial⟩
                  refine only_mk (v := v) ?_
                  with_reducible rfl
                · intro us v hR hn ho K hK
                  obtain ⟨n6, n7, -⟩ := hn
                  have n6 : us 6 = _ := n6
                  have n7 : us 7 = _ := n7
                  clear ho
                  obtain ⟨x0, x1, x2, x3, x4⟩ := HAT.out.of_below hR hgl
                  rw [if_pos (by rfl)]
                  go_simp
                  refine hK _ _ _ (by simp only [Act.put, List.setIfInBounds_toArray, List.set_cons_zero, List.set_cons_succ, Nat.reduceAdd, n6, n7] <;> rfl) ?_ hR ⟨fun h => h, trivial⟩
                  refine only_mk (v := v) ?_
                  with_reducible rfl
                · intro us v hR hn ho K hK
                  obtain ⟨n8, -⟩ := hn
                  have n8 : us 8 = _ := n8
                  clear ho
                  obtain ⟨x0, x1, x2, x3, x4⟩ := HAT.out.of_below hR hgl
                  rw [if_pos (by rfl)]
                  go_simp
                  refine hK _ _ _ (by simp only [Act.put, List.setIfInBounds_toArray, List.set_cons_zero, List.set_cons_succ, Nat.reduceAdd, n8] <;> rfl) ?_ hR ⟨fun h => h, trivial⟩
                  refine only_mk (v := v) ?_
                  with_reducible rfl
                · intro us v hR hn ho K hK
                  obtain ⟨n9, -⟩ := hn
                  have n9 : us 9 = _ := n9
                  clear ho
                  obtain ⟨x0, x1, x2, x3, x4⟩ := HAT.out.of_below hR hgl
                  rw [if_pos (by rfl)]
                  go_simp
                  refine hK _ _ _ (by simp only [Act.put, List.setIfInBounds_toArray, List.set_cons_zero, List.set_cons_succ, Nat.reduceAdd, n9] <;> rfl) ?_ hR ⟨fun h => h, trivial⟩
                  refine only_mk (v := v) ?_
                  with_reducible rfl
                · intro us v hR hn ho K hK
                  obtain ⟨n0, n5, n10, ns, -⟩ := hn
                  have n0 : us 0 = _ := n0
                  have n5 : us 5 = _ := n5
                  have n10 : us 10 = _ := n10
                  clear ho
                  obtain ⟨x0, x1, x2, x3, x4⟩ := HAT.out.of_below hR hgl
                  have hcm := ns.act (come_yes ns.pipe ns.env HI'.out.short me (Nat.le_trans (HI'.out.gl me) (by omega)) a.N)
                  rw [HMP.out, ← HME.out] at hcm
                  have HCM := Lib.hid hcm
                  clear hcm x0 x1 x2 x3 x4
                  rw [if_pos (by rfl)]
                  go_simp
                  refine (HCM.out).mono ?_
                  rintro e v' ⟨rfl, F9, h9, hb9⟩
                  dsimp only
                  exact hK _ _ _ (by simp only [Act.put, List.setIfInBounds_toArray, List.set_cons_zero, List.set_cons_succ, Nat.reduceAdd, n0, n5, n10] <;> rfl) ⟨{ M' with F := F9, p := M.p }, t'.pipe (t'.s.come me a.N), rfl, h9, hR.trans hb9, HQ2.out.come me a.N⟩ (hR.trans hb9) trivial
              case hla =>
                intro us v hR hl
                obtain ⟨n0, n1, n2, n3, n4, n5, n6, n7, n8, n9, n10, n11, -⟩ := need_last hl [0, 1, 2, 3, 4, 5, 6, 7, 8, 9, 10, 11] (by kernel_rfl)
                have n0 : us 0 = _ := n0
                have n1 : us 1 = _ := n1
                have n2 : us 2 = _ := n2
                have n3 : us 3 = _ := n3
                have n4 : us 4 = _ := n4
                have n5 : us 5 = _ := n5
                have n6 : us 6 = _ := n6
                have n7 : us 7 = _ := n7
                have n8 : us 8 = _ := n8
                have n9 : us 9 = _ := n9
                have n10 : us 10 = _ := n10
                obtain ⟨x0, x1, x2, x3, x4⟩ := HAT.out.of_below hR hgl
                simp only [n0, n1, n2, n3, n4, n5, n6, n7, n8, n9, n10]
                clear hl n0 n1 n2 n3 n4 n5 n6 n7 n8 n9 n10
                have HN := Lib.hid n11
                clear n11 hR x0 x1 x2 x3 x4
                go_wp2_with fail
                go_roundw
                case rel => exact ⟨k + 1, hlt, by go_num, HN.out⟩
                case measure => simp [intOf]; omega
            · have HN := Lib.hid (show GoesK WW mm w M.p w2.heap.size (w2.heap.size + 1) (k + 1) v from ⟨M', t', HMP.out, HS'.out, HB'.out, HI'.out⟩)
              go_wp2_with fail
              go_roundw
              case rel => exact ⟨k + 1, hlt, by go_num, HN.out⟩
              case measure => simp [intOf]; omega
      · have hk2 : k = l.length := by omega
        have hd : decide ((k : Int) < (l.length : Int)) = false := by simp; omega
        clear hb hk2 hk
        go_wp2_with fail
        go_ret
        exact ⟨rfl, HB.out⟩
end Go.Proofs.YtihhflajkohibaaDoor.Pipe
