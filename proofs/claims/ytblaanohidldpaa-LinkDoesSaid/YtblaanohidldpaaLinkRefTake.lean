/- Layer 9, the reference: what taking a frame makes of an end as a value. Conditions: the value's row lies (Low), the end is one that may be (Ok), and the frame's number is one of 64 bits. -/
import Derived.Test.YtblaanohidldpaaLinkRefOut
namespace Go.Proofs.Ytblaanohidldpaa.Link
set_option linter.unusedSimpArgs false
set_option linter.unusedVariables false
open Go.RowKit
/-- the reference's Right -/
theorem refRight_any (f : Fr) (w : World) :
    Calls Try.prog 31 #[f.val] w fun e w' => e = .returned (.bool f.right) ∧ Below w.heap.size w w' := by
  obtain ⟨k, ep, sq, ak, b⟩ := f
  have hbl := (Below.refl w.heap.size w).alloc (Nat.le_refl _) (.cells #[.int .i64 k, .int .i64 ep, .int .u64 sq, .int .u64 ak, .string b] 42)
  have HBL := Lib.hid hbl
  have hsz := empty_size b
  clear hbl
  unfold Fr.val
  by_cases a1 : ep < 0
  · have d1 : decide (ep < 0) = true := by simpa using a1
    rw [show Fr.right ⟨k, ep, sq, ak, b⟩ = false from by simp only [Fr.right, true_and, true_or, and_true]; first | (apply decide_eq_true; omega) | (apply decide_eq_false; omega)]
    go_enter Try.func31, Try.ntmps31
    go_wp2
    go_ret
    exact ⟨rfl, HBL.out⟩
  have d1 : decide (ep < 0) = false := by simp; omega
  by_cases a2 : 65535 < ep
  · have d2 : decide (65535 < ep) = true := by simpa using a2
    rw [show Fr.right ⟨k, ep, sq, ak, b⟩ = false from by simp only [Fr.right, true_and, true_or, and_true]; first | (apply decide_eq_true; omega) | (apply decide_eq_false; omega)]
    go_enter Try.func31, Try.ntmps31
    go_wp2
    go_ret
    exact ⟨rfl, HBL.out⟩
  have d2 : decide (65535 < ep) = false := by simp; omega
  by_cases a3 : 64 < b.size
  · have d3 : decide (64 < (b.size : Int)) = true := by simp; omega
    rw [show Fr.right ⟨k, ep, sq, ak, b⟩ = false from by simp only [Fr.right, true_and, true_or, and_true]; first | (apply decide_eq_true; omega) | (apply decide_eq_false; omega)]
    go_enter Try.func31, Try.ntmps31
    go_wp2
    go_ret
    exact ⟨rfl, HBL.out⟩
  have d3 : decide (64 < (b.size : Int)) = false := by simp; omega
  by_cases h1 : k = 1
  · subst h1
    rw [show Fr.right ⟨1, ep, sq, ak, b⟩ = true from by simp only [Fr.right, true_and, true_or, and_true]; first | (apply decide_eq_true; omega) | (apply decide_eq_false; omega)]
    go_enter Try.func31, Try.ntmps31
    go_wp2
    go_ret
    exact ⟨rfl, HBL.out⟩
  have k1 : (k == 1) = false := beq_eq_false_iff_ne.2 h1
  by_cases h2 : k = 2
  · subst h2
    by_cases a4 : b.size = 0
    · rw [decide_eq_true a4] at hsz
      rw [show Fr.right ⟨2, ep, sq, ak, b⟩ = true from by simp only [Fr.right, true_and, true_or, and_true]; first | (apply decide_eq_true; omega) | (apply decide_eq_false; omega)]
      go_enter Try.func31, Try.ntmps31
      go_wp2
      go_ret
      exact ⟨rfl, HBL.out⟩
    · rw [decide_eq_false a4] at hsz
      rw [show Fr.right ⟨2, ep, sq, ak, b⟩ = false from by simp only [Fr.right, true_and, true_or, and_true]; first | (apply decide_eq_true; omega) | (apply decide_eq_false; omega)]
      go_enter Try.func31, Try.ntmps31
      go_wp2
      go_ret
      exact ⟨rfl, HBL.out⟩
  · have k2 : (k == 2) = false := beq_eq_false_iff_ne.2 h2
    rw [show Fr.right ⟨k, ep, sq, ak, b⟩ = false from by simp only [Fr.right, true_and, true_or, and_true]; first | (apply decide_eq_true; omega) | (apply decide_eq_false; omega)]
    go_enter Try.func31, Try.ntmps31
    go_wp2
    go_ret
    exact ⟨rfl, HBL.out⟩
theorem refRight_is (f : Fr) (r : Bool) (h : f.right = r) (w : World) : Calls Try.prog 31 #[f.val] w fun e w' => e = .returned (.bool r) ∧ Below w.heap.size w w' := by subst h; exact refRight_any f w
theorem ack_step_iff {x : LE} {f : Fr} (hf : u f.ack = f.ack) {k : Nat} (h0 : k ≤ 1000) : f.ack = u (x.first + (k : Int)) ↔ x.step f = (k : Int) := by
  unfold LE.step
  rw [u_eq] at *
  rw [u_eq]
  omega
/-- what stands in memory behind the boxes' making: the end, the frame, the result -/
structure TakeSt (w : World) (G : List Nat) (y : LE) (k sq ak ep : Int) (b : ByteArray) (A : Option Addr) (c : Nat) (v : World) : Prop where
  bx : v.heap[w.heap.size]? = some (.cells (ends y A c) 38 (0, 0))
  bf : v.heap[w.heap.size + 1]? = some (.cells #[.int .i64 k, .int .i64 ep, .int .u64 sq, .int .u64 ak, .string b] 42 (0, 0))
  br : v.heap[w.heap.size + 2]? = some (.cells #[.int .i64 0, .int .i64 0, .int .i64 0, .int .i64 0, .slice none 0 0, .int .u64 0, .int .i64 0, .int .i64 0, .int .u64 0, .bool false, .int .i64 0] 38 (0, 0))
  low : Low w G y A c
  below : Below w.heap.size w v
theorem TakeSt.set {w v : World} {G : List Nat} {y z : LE} {k sq ak ep : Int} {b : ByteArray} {A A' : Option Addr} {c c' i : Nat} {t : Value} (h : TakeSt w G y k sq ak ep b A c v) (he : (ends y A c).setIfInBounds i t = ends z A' c') (hl : Low w G z A' c') :
    TakeSt w G z k sq ak ep b A' c' (v.setCell ⟨w.heap.size, i, none⟩ t) :=
  ⟨by rw [set_block h.bx, he], (set_other (p := ⟨w.heap.size, i, none⟩) (by simp) _).trans h.bf, (set_other (p := ⟨w.heap.size, i, none⟩) (by simp) _).trans h.br, hl, h.below.setCell (Nat.le_refl _) _⟩
/-- what the reference's Take hands back -/
def RefTaken (w : World) (G : List Nat) (x : LE) (f : Fr) (e : Ending) (w' : World) : Prop := ∃ A' c', e = .returned (.tuple #[.agg (ends (x.taken f) A' c'), .string (x.told f), .bool (x.isNext f)]) ∧ Low w' G (x.taken f) A' c' ∧ Below w.heap.size w w'
theorem RefTaken.mk' {w w' : World} {G : List Nat} {x y : LE} {f : Fr} {t : ByteArray} {n : Bool} {A' : Option Addr} {c' : Nat} (hy : x.taken f = y) (ht : x.told f = t) (hn : x.isNext f = n) (hl : Low w G y A' c') (hb : Below w.heap.size w w') :
    RefTaken w G x f (.returned (.tuple #[.agg (ends y A' c'), .string t, .bool n])) w' := by
  subst hy; subst ht; subst hn; exact ⟨A', c', rfl, hl.after hb, hb⟩
theorem Low.came {w : World} {G : List Nat} {x : LE} {A : Option Addr} {c k : Nat} (h : Low w G x A c) (hk0 : 0 < k) (hk : k ≤ x.bodies.length) :
    ∃ g off, A = some ⟨g, off, none⟩ ∧ (k = c → Low w G (x.came k) (some ⟨g, off, none⟩) 0) ∧ (k < c → Low w G (x.came k) (some ⟨g, off + k, none⟩) (c - k)) := by
  have hn : x.bodies ≠ [] := by rintro e; rw [e] at hk; simp at hk; omega
  have hv := h.some_ hn
  have hle := h.le
  have hmax := h.max
  rcases hv.place with ⟨rfl, rfl, rfl⟩ | ⟨g, off, rfl, rfl, _⟩
  · exfalso; omega
  · have hl : (x.came k).bodies.length = x.bodies.length - k := by simp [LE.came]
    have hm : (x.came k).bodies.map Value.string = (x.bodies.map Value.string).drop k := by simp [LE.came, List.map_drop]
    refine ⟨g, off, rfl, fun e => ⟨by rw [hl]; omega, Nat.zero_le _, fun hne => ?_⟩, fun e => ⟨by rw [hl]; omega, by omega, fun _ => ?_⟩⟩
    · exfalso; apply hne; apply List.eq_nil_of_length_eq_zero; rw [hl]; omega
    · have := hv.dropped k hk e g off rfl
      rw [Nat.mul_one] at this
      rw [hl, hm]; exact this
theorem TakeSt.came {w v w2 : World} {G : List Nat} {x : LE} {k sq ak ep : Int} {b : ByteArray} {A A' : Option Addr} {c c' n n' : Nat} {o : Int} (h : TakeSt w G x k sq ak ep b A c v) (hx : x.Ok) (hn : n ≤ x.ever) (hn' : n' = x.bodies.length - n) (ho : o = max ((x.out : Int) - (n : Int)) 0) (hl : Low w G (x.came n) A' c')
    (e : w2 = (((((v.setCell ⟨w.heap.size, 4, none⟩ (.slice A' n' c')).setCell ⟨w.heap.size, 5, none⟩ (.int .u64 (IntKind.u64.wrap (x.first + (n : Int))))).setCell ⟨w.heap.size, 6, none⟩ (.int .i64 o)).setCell ⟨w.heap.size, 7, none⟩ (.int .i64 ((x.ever : Int) - (n : Int)))).setCell ⟨w.heap.size, 10, none⟩ (.int .i64 0))) :
    TakeSt w G (x.came n) k sq ak ep b A' c' w2 := by
  subst e; subst hn'; subst ho
  have h1 := hx.oe
  have h2 := hx.ew
  have h3 := hx.el
  have h4 := hx.oe
  have hom : (((x.out - n : Nat) : Int)) = max ((x.out : Int) - (n : Int)) 0 := by omega
  have hev : (((x.ever - n : Nat) : Int)) = (x.ever : Int) - (n : Int) := by omega
  have hdl : (x.came n).bodies.length = x.bodies.length - n := by simp [LE.came]
  refine ⟨?_, ?_, ?_, hl, ((((h.below.setCell (Nat.le_refl _) _).setCell (Nat.le_refl _) _).setCell (Nat.le_refl _) _).setCell (Nat.le_refl _) _).setCell (Nat.le_refl _) _⟩
  · rw [set_block (set_block (set_block (set_block (set_block h.bx 4 _) 5 _) 6 _) 7 _) 10 _, ← hom, ← hev]
    simp [ends, LE.came, u]
  · rw [set_other (p := ⟨w.heap.size, 10, none⟩) (by simp), set_other (p := ⟨w.heap.size, 7, none⟩) (by simp), set_other (p := ⟨w.heap.size, 6, none⟩) (by simp), set_other (p := ⟨w.heap.size, 5, none⟩) (by simp), set_other (p := ⟨w.heap.size, 4, none⟩) (by simp)]; exact h.bf
  · rw [set_other (p := ⟨w.heap.size, 10, none⟩) (by simp), set_other (p := ⟨w.heap.size, 7, none⟩) (by simp), set_other (p := ⟨w.heap.size, 6, none⟩) (by simp), set_other (p := ⟨w.heap.size, 5, none⟩) (by simp), set_other (p := ⟨w.heap.size, 4, none⟩) (by simp)]; exact h.br
set_option maxHeartbeats 4000000 in
theorem ref_take {w : World} {x : LE} {G : List Nat} {A : Option Addr} {c : Nat} (h : Low w G x A c) (hx : x.Ok) (k ep sq ak : Int) (b : ByteArray) (hak : u ak = ak) :
    Calls Try.prog 23 #[.agg (ends x A c), .agg #[.int .i64 k, .int .i64 ep, .int .u64 sq, .int .u64 ak, .string b]] w (RefTaken w G x ⟨k, ep, sq, ak, b⟩) := by
  have h1 := hx.w8
  have h2 := hx.ew
  have h3 := hx.el
  have h4 := hx.oe
  have hst : TakeSt w G x k sq ak ep b A c (((w.alloc (.cells (ends x A c) 38)).alloc (.cells #[.int .i64 k, .int .i64 ep, .int .u64 sq, .int .u64 ak, .string b] 42)).alloc (.cells #[.int .i64 0, .int .i64 0, .int .i64 0, .int .i64 0, .slice none 0 0, .int .u64 0, .int .i64 0, .int .i64 0, .int .u64 0, .bool false, .int .i64 0] 38)) := by
    refine ⟨?_, ?_, heap_new_at _ _ _ (by simp), h, (((Below.refl _ _).alloc (Nat.le_refl _) _).alloc (by simp) _).alloc (by simp; omega) _⟩
    · rw [Below.heap_alloc _ _ _ (by simp; omega), Below.heap_alloc _ _ _ (by simp)]; exact heap_alloc_new w _
    · rw [Below.heap_alloc _ _ _ (by simp)]; exact heap_new_at _ _ _ (by simp)
  have HST := Lib.hid hst
  have HX := Lib.hid hx
  have HAK := Lib.hid hak
  clear h hx hst hak
  unfold ends at HST ⊢
  obtain ⟨r, hr⟩ : ∃ r, Fr.right ⟨k, ep, sq, ak, b⟩ = r := ⟨_, rfl⟩
  have HR := Lib.hid hr
  clear hr
  go_enter Try.func23, Try.ntmps23
  go_wp2_with fail
  refine (refRight_is ⟨k, ep, sq, ak, b⟩ r HR.out _).mono ?_
  rintro e w1 ⟨rfl, hb1⟩
  have hT1 : TakeSt w G x k sq ak ep b A c w1 := by
    have q := HST.out
    exact ⟨(hb1.block _ (lt_of_block q.bx)).trans q.bx, (hb1.block _ (lt_of_block q.bf)).trans q.bf, (hb1.block _ (lt_of_block q.br)).trans q.br, q.low, q.below.trans (hb1.mono q.below.size)⟩
  have HT1 := Lib.hid hT1
  clear hb1 hT1
  have hq0 := eleven HT1.out.bx
  have hr0 := eleven HT1.out.br
  have hr1 := eleven0 HT1.out.br
  have hq1 := eleven0 HT1.out.bx
  have f0 := cell_of_block HT1.out.bf 0
  have f1 := cell_of_block HT1.out.bf 1
  have f2 := cell_of_block HT1.out.bf 2
  have f3 := cell_of_block HT1.out.bf 3
  have f4 := cell_of_block HT1.out.bf 4
  simp at f0 f1 f2 f3 f4
  have HQ0 := Lib.hid hq0
  have HQ1 := Lib.hid hq1
  have HR0 := Lib.hid hr0
  have HR1 := Lib.hid hr1
  clear hq0 hq1 hr0 hr1
  cases hfit : x.fits ⟨k, ep, sq, ak, b⟩
  · have e1 : x.isNext ⟨k, ep, sq, ak, b⟩ = false := by simp [LE.isNext, hfit]
    have e2 : x.told ⟨k, ep, sq, ak, b⟩ = ⟨#[]⟩ := by unfold LE.told; rw [e1]; rfl
    have e3 : x.taken ⟨k, ep, sq, ak, b⟩ = x := by unfold LE.taken; rw [hfit]; rfl
    have hcase : r = false ∨ (r = true ∧ ep ≠ x.epoch) := by
      simp only [LE.fits, HR.out] at hfit
      cases r
      · exact .inl rfl
      · exact .inr ⟨rfl, by simpa using hfit⟩
    have hfin : ∀ w', Below w.heap.size w w' → RefTaken w G x ⟨k, ep, sq, ak, b⟩ (.returned (.tuple #[.agg (ends x A c), .string ⟨#[]⟩, .bool false])) w' := fun w' hb => RefTaken.mk' e3 e2 e1 HT1.out.low hb
    have HFIN := Lib.hid hfin
    clear e1 e2 e3 hfit hfin
    obtain ⟨_, _, _, _, _, _, _, _, _, _, _⟩ := HQ0.out
    obtain ⟨_, _, _, _, _, _, _, _, _, _, _⟩ := HR0.out
    obtain ⟨_, _, _, _, _, _, _, _, _, _, _⟩ := HR1.out
    have q := eleven_set HT1.out.br (.int .i64 x.epoch) (.int .i64 (x.window : Int)) (.int .i64 (x.queue : Int)) (.int .i64 (x.wait : Int)) (.slice A x.bodies.length c) (.int .u64 x.first) (.int .i64 (x.out : Int)) (.int .i64 (x.ever : Int)) (.int .u64 x.want) (.bool x.owes) (.int .i64 (x.age : Int))
    have Q := Lib.hid q
    clear q
    rcases hcase with rfl | ⟨rfl, hne⟩
    · go_wp2_with fail
      exact ret_row3 Try.results23 (w.heap.size + 2) _ _ _ _ _ rfl Q.out.1 rfl rfl Try.underlying38 rfl (by kernel_rfl) rfl (HFIN.out _ (HT1.out.below.trans (Q.out.2.below HT1.out.below.size (by simp))))
    · have d0 : (ep != x.epoch) = true := bne_iff_ne.2 hne
      clear hne
      go_wp2_with fail
      exact ret_row3 Try.results23 (w.heap.size + 2) _ _ _ _ _ rfl Q.out.1 rfl rfl Try.underlying38 rfl (by kernel_rfl) rfl (HFIN.out _ (HT1.out.below.trans (Q.out.2.below HT1.out.below.size (by simp))))
  · have hep : ep = x.epoch ∧ r = true := by
      simp only [LE.fits, HR.out, Bool.and_eq_true, decide_eq_true_eq] at hfit
      exact ⟨hfit.2, hfit.1⟩
    obtain ⟨rfl, rfl⟩ := hep
    have HF := Lib.hid hfit
    clear hfit
    obtain ⟨_, _, _, _, _, _, _, _, _, _, _⟩ := HQ0.out
    go_upto_block 0 with fail
    go_cut [] (fun wx => ∃ A' c', TakeSt w G (x.acked ⟨k, x.epoch, sq, ak, b⟩) k sq ak x.epoch b A' c' wx)
    case first =>
      go_wp2_with fail
      go_loop [7] (fun i => ∃ n : Nat, 1 ≤ n ∧ n ≤ x.ever + 1 ∧ i = .int .i64 (n : Int) ∧ ∀ j : Nat, 1 ≤ j → j < n → x.step ⟨k, x.epoch, sq, ak, b⟩ ≠ (j : Int)) (fun i => x.ever + 1 - (intOf i).toNat)
      case atStart => exact ⟨1, Nat.le_refl _, by omega, rfl, fun j h1 h2 => by omega⟩
      case round =>
        obtain ⟨n, hn1, hn2, rfl, hno⟩ := hrel
        have HNO := Lib.hid hno
        clear hno
        have hconv := conv_in (n : Int) (by omega) (by omega)
        by_cases hlt : n ≤ x.ever
        · have hd1 : decide (n ≤ x.ever) = true := by simpa using hlt
          have hiff := ack_step_iff (x := x) (f := ⟨k, x.epoch, sq, ak, b⟩) HAK.out (k := n) (by omega)
          by_cases hm : ak = u (x.first + (n : Int))
          · have hd2 : (ak == IntKind.u64.wrap (x.first + (n : Int))) = true := beq_iff_eq.2 hm
            have hstep := hiff.1 hm
            have hack : x.acked ⟨k, x.epoch, sq, ak, b⟩ = x.came n := by
              unfold LE.acked; rw [hstep, if_pos ⟨by omega, by omega⟩]; rfl
            have HACK := Lib.hid hack
            clear hm hiff hstep hack
            obtain ⟨g, off, rfl, hca, hcb⟩ := HT1.out.low.came (k := n) (by omega) (by omega)
            have g0 : (0 : Int) ≤ (n : Int) := by omega
            have hle := HT1.out.low.le
            have hmx := HT1.out.low.max
            unfold maxLen at hmx
            have g1 : (n : Int) ≤ (c : Int) := by omega
            obtain ⟨_, _, _, _, _, _, _, _, _, _, _⟩ := HQ1.out
            have fin : ∀ (A' : Option Addr) (n' c' : Nat) (o : Int) (w2 : World), n' = x.bodies.length - n → o = max ((x.out : Int) - (n : Int)) 0 → Low w G (x.came n) A' c' →
                w2 = (((((w1.setCell ⟨w.heap.size, 4, none⟩ (.slice A' n' c')).setCell ⟨w.heap.size, 5, none⟩ (.int .u64 (IntKind.u64.wrap (x.first + (n : Int))))).setCell ⟨w.heap.size, 6, none⟩ (.int .i64 o)).setCell ⟨w.heap.size, 7, none⟩ (.int .i64 ((x.ever : Int) - (n : Int)))).setCell ⟨w.heap.size, 10, none⟩ (.int .i64 0)) →
                TakeSt w G (x.acked ⟨k, x.epoch, sq, ak, b⟩) k sq ak x.epoch b A' c' w2 := fun A' n' c' o w2 e1 e2 e3 e4 => by rw [HACK.out]; exact HT1.out.came HX.out hlt e1 e2 e3 e4
            have FIN := Lib.hid fin
            clear fin
            by_cases hck : n = c
            · have HLW := Lib.hid (hca hck)
              clear hca hcb
              subst hck
              go_wp2_with fail
              all_goals
                go_meet
                exact ⟨_, 0, FIN.out _ 0 0 _ _ (by omega) (by omega) HLW.out rfl⟩
            · have hlt2 : (n : Int) < (c : Int) := by omega
              have HLW := Lib.hid (hcb (by omega))
              clear hca hcb hck
              go_wp2_with fail
              all_goals
                go_meet
                exact ⟨_, c - n, FIN.out _ (x.bodies.length - n) _ _ _ rfl (by omega) HLW.out rfl⟩
          · have hd2 : (ak == IntKind.u64.wrap (x.first + (n : Int))) = false := beq_eq_false_iff_ne.2 hm
            have hns : x.step ⟨k, x.epoch, sq, ak, b⟩ ≠ (n : Int) := fun e => hm (hiff.2 e)
            have HNS := Lib.hid hns
            clear hm hiff hns
            go_wp2_with fail
            go_round
            case rel => exact ⟨n + 1, by omega, by omega, by go_num, fun j h1 h2 => (Nat.lt_or_ge j n).elim (HNO.out j h1) (fun h3 => (show j = n by omega) ▸ HNS.out)⟩
            case measure => simp [intOf]; omega
        · have hd1 : decide (n ≤ x.ever) = false := by simpa using hlt
          have hack : x.acked ⟨k, x.epoch, sq, ak, b⟩ = x := by
            unfold LE.acked
            refine if_neg fun hc => ?_
            obtain ⟨m, hm⟩ := Int.eq_ofNat_of_zero_le (Int.le_of_lt hc.1)
            rw [hm] at hc
            exact HNO.out m (by omega) (by omega) hm
          have HACK := Lib.hid hack
          clear hack
          go_wp2_with fail
          go_meet
          exact ⟨A, c, by rw [HACK.out]; exact HT1.out⟩
    case rest =>
      obtain ⟨A2, c2, hT⟩ := hcut
      have hwant : (x.acked ⟨k, x.epoch, sq, ak, b⟩).want = x.want := LE.acked_want _
      have htk := taken_cases (x := x) ⟨k, x.epoch, sq, ak, b⟩ HF.out
      have HTK := Lib.hid htk
      clear htk
      generalize x.acked ⟨k, x.epoch, sq, ak, b⟩ = y at *
      have HW := Lib.hid hwant
      have hkind : k = 1 ∨ k = 2 := by
        have := HR.out
        simp only [Fr.right, decide_eq_true_eq] at this
        omega
      have HT := Lib.hid hT
      clear hwant f0 f1 f2 f3 f4
      have f0 := cell_of_block HT.out.bf 0
      have f2 := cell_of_block HT.out.bf 2
      have f4 := cell_of_block HT.out.bf 4
      simp at f0 f2 f4
      obtain ⟨_, _, _, _, _, _, _, _, y8, _, _⟩ := eleven HT.out.bx
      obtain ⟨_, _, _, _, _, _, _, _, _, _, _⟩ := eleven0 HT.out.bx
      obtain ⟨_, _, _, _, _, _, _, _, _, _, _⟩ := eleven HT.out.br
      obtain ⟨_, _, _, _, _, _, _, _, _, _, _⟩ := eleven0 HT.out.br
      rw [HW.out] at y8
      clear hT
      rcases hkind with rfl | rfl
      · by_cases hsq : sq = x.want
        · obtain ⟨t1, t2, t3⟩ := HTK.out.2.2 rfl hsq
          have hz : TakeSt w G { y.owed with want := u (x.want + 1) } 1 sq ak x.epoch b A2 c2 ((wc.setCell ⟨w.heap.size, 9, none⟩ (.bool true)).setCell ⟨w.heap.size, 8, none⟩ (.int .u64 (IntKind.u64.wrap (x.want + 1)))) :=
            (HT.out.set (z := y.owed) (A' := A2) (c' := c2) (i := 9) (t := .bool true) (by simp [ends, LE.owed]) (HT.out.low.same rfl)).set (z := { y.owed with want := u (x.want + 1) }) (A' := A2) (c' := c2) (i := 8) (t := .int .u64 (IntKind.u64.wrap (x.want + 1))) (by simp [ends, LE.owed, u]) (HT.out.low.same rfl)
          have hfin : ∀ w', Below w.heap.size w w' → RefTaken w G x ⟨1, x.epoch, sq, ak, b⟩ (.returned (.tuple #[.agg #[.int .i64 y.epoch, .int .i64 (y.window : Int), .int .i64 (y.queue : Int), .int .i64 (y.wait : Int), .slice A2 y.bodies.length c2, .int .u64 y.first, .int .i64 (y.out : Int), .int .i64 (y.ever : Int), .int .u64 (IntKind.u64.wrap (x.want + 1)), .bool true, .int .i64 (y.age : Int)], .string b, .bool true])) w' := fun w' hb => RefTaken.mk' t1 t2 t3 (hz.low) hb
          have HFIN := Lib.hid hfin
          have HZ := Lib.hid hz
          clear t1 t2 t3 hz hfin
          subst hsq
          have hq := eleven HZ.out.bx
          have HQ := Lib.hid hq
          clear hq
          go_wp2_with fail
          refine' wp_flow [only 0 (.agg #[.int .i64 y.epoch, .int .i64 (y.window : Int), .int .i64 (y.queue : Int), .int .i64 (y.wait : Int), .slice A2 y.bodies.length c2, .int .u64 y.first, .int .i64 (y.out : Int), .int .i64 (y.ever : Int), .int .u64 (IntKind.u64.wrap (x.want + 1)), .bool true, .int .i64 (y.age : Int)]), only 1 _, only 2 _, (fun _ v => v.heap[w.heap.size + 2]? = some (.cells #[.int .i64 y.epoch, .int .i64 (y.window : Int), .int .i64 (y.queue : Int), .int .i64 (y.wait : Int), .slice A2 y.bodies.length c2, .int .u64 y.first, .int .i64 (y.out : Int), .int .i64 (y.ever : Int), .int .u64 (IntKind.u64.wrap (x.want + 1)), .bool true, .int .i64 (y.age : Int)] 38 (0, 0))), only 4 _, only 5 _, (fun _ v => v.heap[w.heap.size + 2]? = some (.cells #[.int .i64 0, .int .i64 0, .int .i64 0, .int .i64 0, .slice none 0 0, .int .u64 0, .int .i64 0, .int .i64 0, .int .u64 0, .bool false, .int .i64 0] 38 (0, 0)))] (fun v => v.heap[w.heap.size]? = some (.cells (ends { y.owed with want := u (x.want + 1) } A2 c2) 38 (0, 0)) ∧ v.cell? ⟨w.heap.size + 1, 4, none⟩ = some (.string b) ∧ Below w.heap.size w v) [[], [], [1], [0, 6], [2], []] [[], [], [], [6], [], []] [[], [], [], [], [], []] [[6], [3, 6], [3, 6], [], [3, 6], [3, 6]] [3, 6] [0, 0, 2, 1, 7, 7] _ (fun us => ?hfr) (by kernel_rfl) (by kernel_rfl) (by kernel_rfl) ⟨only_still _, only_still _, only_still _, trivial, only_still _, only_still _, trivial, trivial⟩ (⟨HZ.out.bx, (by have q := cell_of_block HZ.out.bf 4; exact q), below_drewN HZ.out.below 1⟩) (by simp) (HZ.out.br) ?hst ?hla
          case hfr => (simp only [List.cons_append, List.nil_append, putAll, Act.put, List.setIfInBounds_toArray, List.set_cons_zero, List.set_cons_succ, Nat.reduceAdd]; rfl)
          case hst =>
            refine ⟨?_, ?_, ?_, ?_, ?_, ?_, trivial⟩
            · intro us v hR hn ho K hK
              clear ho
              obtain ⟨r1, r2, r3⟩ := id hR; obtain ⟨z0, z1, z2, z3, z4, z5, z6, z7, z8, z9, z10⟩ := eleven r1; simp only [LE.owed, u] at z0 z1 z2 z3 z4 z5 z6 z7 z8 z9 z10
              rw [if_pos (by rfl)]
              go_simp
              refine hK _ _ _ (by simp only [Act.put, List.setIfInBounds_toArray, List.set_cons_zero, List.set_cons_succ, Nat.reduceAdd] <;> rfl) ?_ hR ⟨fun h => h, trivial⟩
              refine only_mk (v := v) ?_
              with_reducible rfl
            · intro us v hR hn ho K hK
              clear ho
              obtain ⟨r1, r2, r3⟩ := id hR; obtain ⟨z0, z1, z2, z3, z4, z5, z6, z7, z8, z9, z10⟩ := eleven r1; simp only [LE.owed, u] at z0 z1 z2 z3 z4 z5 z6 z7 z8 z9 z10
              rw [if_pos (by rfl)]
              go_simp
              refine hK _ _ _ (by simp only [Act.put, List.setIfInBounds_toArray, List.set_cons_zero, List.set_cons_succ, Nat.reduceAdd] <;> rfl) ?_ hR ⟨fun h => h, fun h => h, trivial⟩
              refine only_mk (v := v) ?_
              with_reducible rfl
            · intro us v hR hn ho K hK
              obtain ⟨n1, -⟩ := hn
              have n1 : us 1 = _ := n1
              clear ho
              obtain ⟨r1, r2, r3⟩ := id hR; obtain ⟨z0, z1, z2, z3, z4, z5, z6, z7, z8, z9, z10⟩ := eleven r1; simp only [LE.owed, u] at z0 z1 z2 z3 z4 z5 z6 z7 z8 z9 z10
              rw [if_pos (by rfl)]
              go_simp
              refine hK _ _ _ (by simp only [Act.put, List.setIfInBounds_toArray, List.set_cons_zero, List.set_cons_succ, Nat.reduceAdd, n1] <;> rfl) ?_ hR ⟨fun h => h, fun h => h, trivial⟩
              refine only_mk (v := v) ?_
              with_reducible rfl
            · intro us v hR hn ho K hK
              obtain ⟨n0, ns, -⟩ := hn
              have n0 : us 0 = _ := n0
              clear ho
              obtain ⟨r1, r2, r3⟩ := id hR; obtain ⟨z0, z1, z2, z3, z4, z5, z6, z7, z8, z9, z10⟩ := eleven r1; simp only [LE.owed, u] at z0 z1 z2 z3 z4 z5 z6 z7 z8 z9 z10
              rw [if_pos (by rfl)]
              refine wp_store_all 38 (.tmp 4) (.tmp 70) (by rfl) (w.heap.size + 2) _ _ _ (by rfl) n0 ns rfl (by kernel_rfl) (by simp [Value.oneCell']) ?_
              intro v' hq hk
              refine hK undef _ _ (by simp only [Act.put, List.setIfInBounds_toArray, List.set_cons_zero, List.set_cons_succ, Nat.reduceAdd, n0] <;> rfl) hq ⟨(hk.block _ (lt_of_block r1) (by simp)).trans r1, (hk.cell (p := ⟨w.heap.size + 1, 4, none⟩) (by have := lt_of_block ns; simp; omega) (by simp)).trans r2, r3.trans (hk.below r3.size (by simp))⟩ trivial
            · intro us v hR hn ho K hK
              obtain ⟨n2, -⟩ := hn
              have n2 : us 2 = _ := n2
              clear ho
              obtain ⟨r1, r2, r3⟩ := id hR; obtain ⟨z0, z1, z2, z3, z4, z5, z6, z7, z8, z9, z10⟩ := eleven r1; simp only [LE.owed, u] at z0 z1 z2 z3 z4 z5 z6 z7 z8 z9 z10
              rw [if_pos (by rfl)]
              go_simp
              refine hK _ _ _ (by simp only [Act.put, List.setIfInBounds_toArray, List.set_cons_zero, List.set_cons_succ, Nat.reduceAdd, n2] <;> rfl) ?_ hR ⟨fun h => h, fun h => h, trivial⟩
              refine only_mk (v := v) ?_
              with_reducible rfl
            · intro us v hR hn ho K hK
              clear ho
              obtain ⟨r1, r2, r3⟩ := id hR; obtain ⟨z0, z1, z2, z3, z4, z5, z6, z7, z8, z9, z10⟩ := eleven r1; simp only [LE.owed, u] at z0 z1 z2 z3 z4 z5 z6 z7 z8 z9 z10
              rw [if_pos (by rfl)]
              go_simp
              refine hK _ _ _ (by simp only [Act.put, List.setIfInBounds_toArray, List.set_cons_zero, List.set_cons_succ, Nat.reduceAdd] <;> rfl) ?_ hR ⟨fun h => h, fun h => h, trivial⟩
              refine only_mk (v := v) ?_
              with_reducible rfl
          case hla =>
            intro us v hR hl
            obtain ⟨n0, n1, n2, n3, n4, n5, -⟩ := need_last hl [0, 1, 2, 3, 4, 5] (by kernel_rfl)
            have n0 : us 0 = _ := n0
            have n1 : us 1 = _ := n1
            have n2 : us 2 = _ := n2
            have n4 : us 4 = _ := n4
            have n5 : us 5 = _ := n5
            obtain ⟨r1, r2, r3⟩ := id hR; obtain ⟨z0, z1, z2, z3, z4, z5, z6, z7, z8, z9, z10⟩ := eleven r1; simp only [LE.owed, u] at z0 z1 z2 z3 z4 z5 z6 z7 z8 z9 z10
            simp only [n0, n1, n2, n4, n5]
            clear hl n0 n1 n2 n4 n5
            obtain ⟨r1, r2, r3⟩ := id hR
            go_wp2_with fail
            exact ret_row3 Try.results23 (w.heap.size + 2) _ _ _ _ _ rfl n3 rfl rfl Try.underlying38 rfl (by kernel_rfl) rfl (HFIN.out _ r3)
        · have d1 : (sq == x.want) = false := beq_eq_false_iff_ne.2 hsq
          obtain ⟨t1, t2, t3⟩ := HTK.out.2.1 rfl hsq
          have hz : TakeSt w G y.owed 1 sq ak x.epoch b A2 c2 (wc.setCell ⟨w.heap.size, 9, none⟩ (.bool true)) := HT.out.set (z := y.owed) (A' := A2) (c' := c2) (i := 9) (t := .bool true) (by simp [ends, LE.owed]) (HT.out.low.same rfl)
          have hfin : ∀ w', Below w.heap.size w w' → RefTaken w G x ⟨1, x.epoch, sq, ak, b⟩ (.returned (.tuple #[.agg (ends y.owed A2 c2), .string ⟨#[]⟩, .bool false])) w' := fun w' hb => RefTaken.mk' t1 t2 t3 hz.low hb
          have HFIN := Lib.hid hfin
          have HZ := Lib.hid hz
          have q := eleven_set hz.br (.int .i64 y.epoch) (.int .i64 (y.window : Int)) (.int .i64 (y.queue : Int)) (.int .i64 (y.wait : Int)) (.slice A2 y.bodies.length c2) (.int .u64 y.first) (.int .i64 (y.out : Int)) (.int .i64 (y.ever : Int)) (.int .u64 x.want) (.bool true) (.int .i64 (y.age : Int))
          have Q := Lib.hid q
          clear t1 t2 t3 hz hfin hsq q
          simp only [ends, LE.owed, HW.out] at HFIN
          go_wp2_with fail
          exact ret_row3 Try.results23 (w.heap.size + 2) _ _ _ _ _ rfl Q.out.1 rfl rfl Try.underlying38 rfl (by kernel_rfl) rfl (HFIN.out _ (HZ.out.below.trans (Q.out.2.below HZ.out.below.size (by simp))))
      · obtain ⟨t1, t2, t3⟩ := HTK.out.1 (by show (2 : Int) ≠ 1; decide)
        have hfin : ∀ w', Below w.heap.size w w' → RefTaken w G x ⟨2, x.epoch, sq, ak, b⟩ (.returned (.tuple #[.agg (ends y A2 c2), .string ⟨#[]⟩, .bool false])) w' := fun w' hb => RefTaken.mk' t1 t2 t3 HT.out.low hb
        have HFIN := Lib.hid hfin
        have q := eleven_set HT.out.br (.int .i64 y.epoch) (.int .i64 (y.window : Int)) (.int .i64 (y.queue : Int)) (.int .i64 (y.wait : Int)) (.slice A2 y.bodies.length c2) (.int .u64 y.first) (.int .i64 (y.out : Int)) (.int .i64 (y.ever : Int)) (.int .u64 x.want) (.bool y.owes) (.int .i64 (y.age : Int))
        have Q := Lib.hid q
        clear t1 t2 t3 hfin q
        simp only [ends, HW.out] at HFIN
        go_wp2_with fail
        exact ret_row3 Try.results23 (w.heap.size + 2) _ _ _ _ _ rfl Q.out.1 rfl rfl Try.underlying38 rfl (by kernel_rfl) rfl (HFIN.out _ (HT.out.below.trans (Q.out.2.below HT.out.below.size (by simp))))
end Go.Proofs.Ytblaanohidldpaa.Link
