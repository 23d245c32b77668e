/- Layer 10, plain: if all that goes comes, oldest first, and time passes, all comes. No function of the program. -/
import Derived.Test.YtihhflajkohibaaDoorPipeT
namespace Go.Proofs.YtihhflajkohibaaDoor.Link
set_option linter.unusedSimpArgs false
set_option linter.unusedVariables false
set_option maxRecDepth 100000
variable {f0 : Int} {x y : LE}
def round2 (s : St) : St :=
  ⟨(comes ((s.x.ticks 100).gone, s.gx) ((comes (s.y, s.gy) (s.x.ticks 100).goes).1.ticks 100).goes).1, ((comes (s.y, s.gy) (s.x.ticks 100).goes).1.ticks 100).gone,
   (comes ((s.x.ticks 100).gone, s.gx) ((comes (s.y, s.gy) (s.x.ticks 100).goes).1.ticks 100).goes).2, (comes (s.y, s.gy) (s.x.ticks 100).goes).2⟩
theorem ticks_ok (hx : x.Ok) (n : Nat) : (x.ticks n).Ok := by
  induction n with
  | zero => exact hx
  | succ n ih => exact ih.ticked
theorem Rd.step2 {Sx Sy : List ByteArray} {r : Nat} {s : St} (h : Rd f0 Sx Sy r s) : Rd f0 Sx Sy (r + 1) (round2 s) := by
  obtain ⟨ox, oy, hp⟩ := h.pair
  have hp1 := hp.ticks 100
  obtain ⟨b1, o1, e1, w1, n1⟩ := ticks_same s.x 100
  have hx0 := ticks_out s.x hp.okx
  have hsx : (s.x.ticks 100).Small := ⟨by rw [e1]; exact h.smallx.1, by rw [e1]; exact h.smallx.2.1, by rw [b1]; exact h.smallx.2.2⟩
  have W1 := Went.of hp1 hx0 hsx (by rw [e1]; exact h.epoch)
  unfold round2
  have hX : (s.x.ticks 100).Ok := hp1.okx
  generalize comes (s.y, s.gy) (s.x.ticks 100).goes = P at *
  generalize s.x.ticks 100 = X at *
  obtain ⟨ox2, oy2, hp2⟩ := W1.pair
  obtain ⟨b2, o2, e2, w2, n2⟩ := ticks_same P.1 100
  have hpo := ticks_out P.1 hp2.oky
  have hpe : P.1.epoch = s.x.epoch := by rw [W1.epoch]; exact h.epoch
  have hpe2 : (P.1.ticks 100).epoch = s.x.epoch := by rw [e2]; exact hpe
  have hsy : (P.1.ticks 100).Small := ⟨by rw [hpe2]; exact h.smallx.1, by rw [hpe2]; exact h.smallx.2.1, fun b hb => h.smally.2.2 b (by rw [b2] at hb; exact W1.sub b hb)⟩
  have hge : X.gone.epoch = s.x.epoch := e1
  have hp2' := hp2.symm.ticks 100
  have W2 := Went.of hp2' hpo hsy (by rw [hge, hpe2])
  generalize P.1.ticks 100 = P1 at *
  generalize comes (X.gone, s.gx) P1.goes = Q at *
  obtain ⟨ox3, oy3, hp3⟩ := W2.pair
  have hxg : X.gone.bodies = s.x.bodies := b1
  have hxm : X.most = min X.window s.x.bodies.length := by unfold LE.most; rw [b1]
  have hw := hX.w1
  have hPw := hp2'.okx.w1
  have hPm : P1.most = min P1.window P1.bodies.length := rfl
  have ht1 := W1.told
  have ht2 := W2.told
  have hl2 := W2.len
  rw [hxg] at hl2
  rw [b1] at ht1
  have c1 : Sy.length - Q.2.length ≤ P1.bodies.length := (told_le hp3.fwd hp3.okx).1
  have c3 : Q.2.length ≤ Sy.length := (told_le hp3.fwd hp3.okx).2.2.1
  obtain ⟨d1, d2, d3, d4⟩ := told_le hp2'.fwd hp2'.okx
  refine ⟨⟨oy3, ox3, hp3.symm⟩, ?_, ⟨?_, ?_, ?_⟩, ⟨?_, ?_, ?_⟩, ?_, ?_⟩
  · show P1.epoch = Q.1.epoch
    rw [W2.epoch, hpe2, hge]
  · show 0 ≤ Q.1.epoch
    rw [W2.epoch, hge]; exact h.smallx.1
  · show Q.1.epoch ≤ 65535
    rw [W2.epoch, hge]; exact h.smallx.2.1
  · intro b hb
    exact h.smallx.2.2 b (by rw [← hxg]; exact W2.sub b hb)
  · show 0 ≤ P1.epoch
    rw [hpe2]; exact h.smallx.1
  · show P1.epoch ≤ 65535
    rw [hpe2]; exact h.smallx.2.1
  · exact hsy.2.2
  · show Q.1.bodies.length + (r + 1) ≤ 64 ∨ Q.1.bodies = []
    by_cases hb : s.x.bodies = []
    · right
      rw [hb] at hl2
      exact List.length_eq_zero_iff.1 (by simpa using hl2)
    · left
      have hone := h.one.resolve_right hb
      have hpos := List.length_pos_iff.2 hb
      have ho := W1.owes (by rw [b1]; exact hb)
      have hac := W2.acked (.inr (by rw [o2]; exact ho))
      have := (told_le hp2.fwd hp2.okx).2.2.2
      rw [hxg] at this
      omega
  · intro _
    show P1.bodies = [] ∨ (Q.1.owes = true ∧ Sy.length - Q.2.length + (r + 1) ≤ 65)
    by_cases hb : P1.bodies = []
    · exact .inl hb
    · right
      have hpos := List.length_pos_iff.2 hb
      refine ⟨W2.owes hb, ?_⟩
      rcases Nat.eq_zero_or_pos r with h0 | h0
      · subst h0
        have := hp2'.okx.len
        have := hp2'.okx.q64
        omega
      · rcases h.two h0 with h2 | ⟨h2, h3⟩
        · exfalso
          have := W1.len
          rw [← b2, h2] at this
          simp at this
          exact hb this
        · have hac := W1.acked (.inr (by rw [o1]; exact h2))
          rw [← b2] at hac
          omega
end Go.Proofs.YtihhflajkohibaaDoor.Link
namespace Go.Proofs.YtihhflajkohibaaDoor.Pipe
set_option linter.unusedSimpArgs false
set_option linter.unusedVariables false
open Go.Proofs.YtihhflajkohibaaDoor.Link (LE Fr Pair Dir comes come Rd St round2)
open Go.Proofs.YtihhflajkohibaaDoor.Net (NS)
theorem come_eq (s : LE × List ByteArray) (f : Fr) (l : List Fr) : comes s (f :: l) = comes (Link.come s f) l := rfl
/-- all frames go where there is room -/
theorem ways_all (a b : Int) (l : List Fr) : ∀ w : NS × Nat, w.1.good a b = true → (∀ f, f ∈ l → f.right = true) → (w.1.f a b).length + l.length ≤ w.1.m → (ways a b w l).1.f a b = w.1.f a b ++ l.map bytes := by
  induction l with
  | nil => intro w _ _ _; simp [ways]
  | cons f l ih =>
    intro w hg hr hm
    rw [List.length_cons] at hm
    have hs : w.1.sendOk a b = true := by unfold NS.sendOk; rw [hg]; simp; omega
    have hw : way a b w f = (w.1.set a b (w.1.f a b ++ [bytes f]), w.2 + 1) := by
      unfold way
      rw [if_pos (hr f (by simp)), if_pos hs]
      unfold NS.send
      rw [if_pos hs]
    show (ways a b (way a b w f) l).1.f a b = _
    rw [ih _ (by rw [hw]; exact hg) (fun g hg => hr g (by simp [hg])) (by rw [hw]; show ((w.1.set a b _).f a b).length + _ ≤ w.1.m; rw [NS.set_same, List.length_append]; simp; omega), hw]
    show (w.1.set a b _).f a b ++ _ = _
    rw [NS.set_same]; simp
namespace PS
variable (s : PS) (me : Bool)
def ticksN (n : Nat) : PS := { s with e := up s.e me ((s.e me).ticks n) }
theorem ticksN_succ (n : Nat) : s.ticksN me (n + 1) = (s.ticksN me n).tick me := by
  unfold ticksN tick
  simp only [up_same, up_up]
  rfl
def loseN : Nat → PS
  | 0 => s
  | n + 1 => (loseN n).lose me 0
def comeN : Nat → PS
  | 0 => s
  | n + 1 => (comeN n).come me 0
/-- what is at the front comes, or there is nothing -/
theorem lose_row : (s.lose me 0).row me = (s.row me).tail ∧ (s.lose me 0).row (!me) = s.row (!me) ∧ (s.lose me 0).n.n = s.n.n ∧ (s.lose me 0).n.m = s.n.m := by
  unfold lose row NS.deliver
  have hne : ∀ me : Bool, ¬ (no (!!me) = no (!me) ∧ no (!me) = no me) := by decide
  cases hk : s.n.isAt (no (!me)) (no me) 0
  · unfold NS.isAt at hk
    have hk := of_decide_eq_false hk
    have : s.n.f (no (!me)) (no me) = [] := List.eq_nil_of_length_eq_zero (by omega)
    simp [this]
  · simp only [if_true]
    refine ⟨?_, NS.set_other _ _ _ _ _ _ (hne me), rfl, rfl⟩
    rw [NS.set_same]
    cases s.n.f (no (!me)) (no me) <;> rfl
theorem loseN_row (n : Nat) : (s.loseN me n).row me = (s.row me).drop n ∧ (s.loseN me n).row (!me) = s.row (!me) ∧ (s.loseN me n).n.n = s.n.n ∧ (s.loseN me n).n.m = s.n.m ∧ (s.loseN me n).e = s.e ∧ (s.loseN me n).g = s.g := by
  induction n with
  | zero => exact ⟨rfl, rfl, rfl, rfl, rfl, rfl⟩
  | succ n ih =>
    obtain ⟨a, b, c, d⟩ := (s.loseN me n).lose_row me
    obtain ⟨h1, h2, h3, h4, h5, h6⟩ := ih
    show ((s.loseN me n).lose me 0).row me = _ ∧ ((s.loseN me n).lose me 0).row (!me) = _ ∧ ((s.loseN me n).lose me 0).n.n = _ ∧ ((s.loseN me n).lose me 0).n.m = _ ∧ ((s.loseN me n).lose me 0).e = _ ∧ ((s.loseN me n).lose me 0).g = _
    rw [a, b, c, d, h1, h2, h3, h4, List.tail_drop]
    exact ⟨rfl, rfl, rfl, rfl, h5, h6⟩
theorem short_loseN (h : Short s.n) (n : Nat) : Short (s.loseN me n).n := by
  induction n with
  | zero => exact h
  | succ n ih => exact short_lose ih 0
theorem short_comeN (h : Short s.n) (n : Nat) : Short (s.comeN me n).n := by
  induction n with
  | zero => exact h
  | succ n ih => exact short_come ih 0
theorem come_front {f : Fr} {l : List ByteArray} (h : s.row me = bytes f :: l) (hr : f.right = true) (hf : Frame.Fits f) : s.come me 0 = (s.lose me 0).take me f := by
  have hh : s.has me 0 = true := by rw [has_row, h]; simp
  have hl : s.look me 0 = bytes f := by
    have := look_row s me 0 (by rw [h]; simp)
    simp only [h] at this
    exact this
  have hd : (bytes f).data.toList = Frame.put f := by unfold bytes; simp
  have hfr : s.frameB me 0 = true := by unfold frameB; rw [hh, hl, hd, Frame.why_put f hr hf]; rfl
  have hfe : s.frame me 0 = f := by unfold frame; rw [hl, hd, Frame.get_put f hr hf]
  unfold come
  rw [hfr, if_pos rfl, hfe]
theorem come_none (h : s.row me = []) : s.come me 0 = s := by
  have hh : s.has me 0 = false := by rw [has_row, h]; simp
  have hfr : s.frameB me 0 = false := by unfold frameB; rw [hh]; rfl
  unfold come
  rw [hfr, if_neg (by simp)]
  unfold lose NS.deliver
  rw [show s.n.isAt (no (!me)) (no me) 0 = false from hh, if_neg (by simp)]
theorem comeN_add (n : Nat) : s.comeN me (n + 1) = (s.come me 0).comeN me n := by
  induction n with
  | zero => rfl
  | succ n ih =>
    show (s.comeN me (n + 1)).come me 0 = ((s.come me 0).comeN me n).come me 0
    rw [ih]
theorem comeN_all (l : List Fr) : ∀ (s : PS) (n : Nat), s.row me = l.map bytes → (∀ f, f ∈ l → f.right = true ∧ Frame.Fits f) → l.length ≤ n →
    (s.comeN me n).e me = (comes (s.e me, s.g me) l).1 ∧ (s.comeN me n).g me = (comes (s.e me, s.g me) l).2 ∧ (s.comeN me n).e (!me) = s.e (!me) ∧ (s.comeN me n).g (!me) = s.g (!me) ∧ (s.comeN me n).row me = [] ∧ (s.comeN me n).row (!me) = s.row (!me) ∧ (s.comeN me n).n.n = s.n.n ∧ (s.comeN me n).n.m = s.n.m := by
  induction l with
  | nil =>
    intro s n h _ _
    have hn : ∀ n, s.comeN me n = s := by
      intro n
      induction n with
      | zero => rfl
      | succ n ih => show (s.comeN me n).come me 0 = s; rw [ih]; exact s.come_none me h
    rw [hn]
    exact ⟨rfl, rfl, rfl, rfl, h, rfl, rfl, rfl⟩
  | cons f l ih =>
    intro s n h hr hn
    obtain ⟨n, rfl⟩ : ∃ k, n = k + 1 := ⟨n - 1, by rw [List.length_cons] at hn; omega⟩
    rw [comeN_add]
    have h' : s.row me = bytes f :: l.map bytes := h
    rw [s.come_front me h' (hr f (by simp)).1 (hr f (by simp)).2]
    obtain ⟨r1, r2, r3, r4⟩ := s.lose_row me
    have hrow : ((s.lose me 0).take me f).row me = l.map bytes := by
      show (s.lose me 0).row me = _
      rw [r1, h']; rfl
    obtain ⟨a1, a2, a3, a4, a5, a6, a7, a8⟩ := ih ((s.lose me 0).take me f) n hrow (fun g hg => hr g (by simp [hg])) (by rw [List.length_cons] at hn; omega)
    have he : ((s.lose me 0).take me f).e me = (s.e me).taken f := by unfold take; exact up_same _ _ _
    have hg : ((s.lose me 0).take me f).g me = if (s.e me).isNext f then s.g me ++ [(s.e me).told f] else s.g me := by unfold take; exact up_same _ _ _
    have he' : ((s.lose me 0).take me f).e (!me) = s.e (!me) := by unfold take; exact up_other _ _ _
    have hg' : ((s.lose me 0).take me f).g (!me) = s.g (!me) := by unfold take; exact up_other _ _ _
    rw [he, hg] at a1 a2
    refine ⟨a1, a2, a3.trans he', a4.trans hg', a5, a6.trans r2, a7.trans r3, a8.trans r4⟩
/-- half a round: time passes on a side, all that goes out goes, and comes -/
def half : PS := ((s.ticksN me 100).go me).comeN (!me) 8
theorem goes_len {x : LE} (hx : x.Ok) : x.goes.length ≤ 8 := by
  have h1 := hx.w8
  have h2 := hx.w1
  unfold LE.goes
  rw [List.length_append]
  unfold LE.datas LE.acks LE.most
  rw [List.length_map, List.length_range']
  split <;> simp <;> omega
theorem goes_right {x : LE} (hs : x.Small) (hx : x.Ok) {f : Fr} (hf : f ∈ x.goes) : f.right = true := by
  unfold LE.goes at hf
  rcases List.mem_append.1 hf with hf | hf
  · unfold LE.datas at hf
    obtain ⟨i, hi, rfl⟩ := List.mem_map.1 hf
    have hi := List.mem_range'_1.1 hi
    have hlt : i < x.bodies.length := by have : x.most ≤ x.bodies.length := by unfold LE.most; omega
                                         omega
    have hb := hs.2.2 (x.bodies.getD i ⟨#[]⟩) (by rw [List.getD_eq_getElem?_getD, List.getElem?_eq_getElem hlt]; exact List.getElem_mem _)
    exact Frame.right_iff.2 ⟨hs.1, hs.2.1, hb, .inl rfl⟩
  · unfold LE.acks at hf
    split at hf
    · simp at hf; subst hf
      exact Frame.right_iff.2 ⟨hs.1, hs.2.1, Nat.zero_le 64, .inr ⟨rfl, rfl⟩⟩
    · cases hf
theorem half_is (hr : s.row (!me) = []) (hm : 8 ≤ s.n.m) (hn : s.n.n = 2) (hok : (s.e me).Ok) (hs : (s.e me).Small) :
    (s.half me).e me = ((s.e me).ticks 100).gone ∧ (s.half me).g me = s.g me ∧ (s.half me).e (!me) = (comes (s.e (!me), s.g (!me)) ((s.e me).ticks 100).goes).1 ∧ (s.half me).g (!me) = (comes (s.e (!me), s.g (!me)) ((s.e me).ticks 100).goes).2 ∧
      (s.half me).row (!me) = [] ∧ (s.half me).row me = s.row me ∧ (s.half me).n.n = s.n.n ∧ (s.half me).n.m = s.n.m := by
  obtain ⟨b1, o1, e1, w1, n1⟩ := Link.ticks_same (s.e me) 100
  have hok1 : ((s.e me).ticks 100).Ok := Link.ticks_ok hok 100
  have hs1 : ((s.e me).ticks 100).Small := ⟨by rw [e1]; exact hs.1, by rw [e1]; exact hs.2.1, by rw [b1]; exact hs.2.2⟩
  generalize hx : (s.e me).ticks 100 = x at *
  have ht : s.ticksN me 100 = { s with e := up s.e me x } := by unfold ticksN; rw [hx]
  have hge : (s.ticksN me 100).e me = x := by rw [ht]; exact up_same _ _ _
  obtain ⟨r1, r2, r3, r4, r5, r6, r7⟩ := (s.ticksN me 100).go_row me
  have hrow : ((s.ticksN me 100).go me).row (!me) = x.goes.map bytes := by
    have h1 : (s.ticksN me 100).n = s.n := by rw [ht]
    have h2 := ways_all (no me) (no (!me)) x.goes (s.n, 0) (by
      unfold NS.good
      rw [hn]
      cases me <;> decide) (fun f hf => goes_right hs1 hok1 hf) (by
      have := goes_len hok1
      have h3 : s.n.f (no me) (no (!me)) = [] := by rw [← row_other]; exact hr
      show (s.n.f (no me) (no (!me))).length + _ ≤ _
      rw [h3]; simp; omega)
    have h3 : s.n.f (no me) (no (!me)) = [] := by rw [← row_other]; exact hr
    rw [row_other]
    show (((s.ticksN me 100).gone me).1).f _ _ = _
    unfold gone
    rw [hge, h1, h2]
    show s.n.f (no me) (no (!me)) ++ _ = _
    rw [h3]; rfl
  have hg1 : ((s.ticksN me 100).go me).e me = x.gone := by
    show up _ me _ me = _
    rw [up_same, hge]
  have hg2 : ((s.ticksN me 100).go me).e (!me) = s.e (!me) := by
    show up _ me _ (!me) = _
    rw [up_other, ht]; exact up_other _ _ _
  have hg3 : ((s.ticksN me 100).go me).g = s.g := by rw [ht]; rfl
  obtain ⟨a1, a2, a3, a4, a5, a6, a7, a8⟩ := comeN_all (!me) x.goes ((s.ticksN me 100).go me) 8 hrow (fun f hf => ⟨goes_right hs1 hok1 hf, goes_fits hok1 hf⟩) (goes_len hok1)
  rw [Bool.not_not] at a3 a4 a6
  rw [hg2, hg3] at a1 a2
  have hn1 : (s.ticksN me 100).n = s.n := by rw [ht]
  unfold half
  refine ⟨a3.trans hg1, a4.trans (by rw [hg3]), a1, a2, a5, ?_, ?_, ?_⟩
  · rw [a6, r4]; unfold row; rw [hn1]
  · rw [a7, r5, hn1]
  · rw [a8, r6, hn1]
end PS
/-- what stands between two rounds -/
structure RdP (f0 : Int) (S : Bool → List ByteArray) (r : Nat) (s : PS) : Prop where
  rd : Rd f0 (S false) (S true) r ⟨s.e false, s.e true, s.g false, s.g true⟩
  row : ∀ b, s.row b = []
  m : 8 ≤ s.n.m
  n : s.n.n = 2
  short : Short s.n
section
variable {f0 : Int} {S : Bool → List ByteArray} {r : Nat} {s : PS}
theorem PS.short_half (h : Short s.n) (me : Bool) : Short (s.half me).n := PS.short_comeN _ _ (PS.short_go (s := s.ticksN me 100) h) 8
theorem RdP.step (h : RdP f0 S r s) : RdP f0 S (r + 1) ((s.half false).half true) := by
  have hrd := h.rd.step2
  obtain ⟨ox, oy, hp⟩ := h.rd.pair
  have hp : Pair f0 (s.e false) (s.e true) (S false) (S true) (s.g false) (s.g true) ox oy := hp
  have hsx0 : (s.e false).Small := h.rd.smallx
  have hsy0 : (s.e true).Small := h.rd.smally
  have hep : (s.e true).epoch = (s.e false).epoch := h.rd.epoch
  obtain ⟨a1, a2, a3, a4, a5, a6, a7, a8⟩ := s.half_is false (h.row true) h.m h.n hp.okx hsx0
  have hp1 := hp.ticks 100
  have hx0 := Link.ticks_out (s.e false) hp.okx
  obtain ⟨b1, o1, e1, w1, n1⟩ := Link.ticks_same (s.e false) 100
  have k6 := PS.short_half (PS.short_half h.short false) true
  unfold round2 at hrd
  simp only at hrd
  rw [Bool.not_false] at a3 a4 a5
  generalize s.half false = s1 at *
  generalize (s.e false).ticks 100 = X at *
  have hsx : X.Small := ⟨by rw [e1]; exact hsx0.1, by rw [e1]; exact hsx0.2.1, by rw [b1]; exact hsx0.2.2⟩
  have W1 := Link.Went.of hp1 hx0 hsx (by rw [e1]; exact hep)
  generalize comes (s.e true, s.g true) X.goes = P at *
  obtain ⟨ox3, oy3, hp3⟩ := W1.pair
  have hsy : P.1.Small := ⟨by rw [W1.epoch]; exact hsy0.1, by rw [W1.epoch]; exact hsy0.2.1, fun b hb => hsy0.2.2 b (W1.sub b hb)⟩
  have k1 : s1.row (!true) = [] := a6.trans (h.row false)
  have k2 : 8 ≤ s1.n.m := by rw [a8]; exact h.m
  have k3 : s1.n.n = 2 := a7.trans h.n
  obtain ⟨c1, c2, c3, c4, c5, c6, c7, c8⟩ := s1.half_is true k1 k2 k3 (by rw [a3]; exact hp3.oky) (by rw [a3]; exact hsy)
  generalize s1.half true = s2 at *
  rw [Bool.not_true] at c3 c4 c5
  rw [a3] at c1 c3 c4
  rw [a4] at c2
  rw [a1, a2] at c3 c4
  refine ⟨?_, ?_, by rw [c8]; exact k2, c7.trans k3, k6⟩
  · rw [c1, c2, c3, c4]; exact hrd
  · intro b
    cases b
    · exact c5
    · exact c6.trans a5
theorem RdP.law (h : RdP f0 S 66 s) : s.g true = S false ∧ s.g false = S true ∧ (s.e false).bodies = [] ∧ (s.e true).bodies = [] := h.rd.law
end
end Go.Proofs.YtihhflajkohibaaDoor.Pipe
