/- Layer 10: what stands between the parts of PipeAll; what acts keep for it. Conditions: those of each lemma. -/
import Derived.Test.YtihhflajkohibaaDoorPipeAllP
import Derived.Test.YtihhflajkohibaaDoorPipePlay3
namespace Go.Proofs.YtihhflajkohibaaDoor.Pipe
set_option linter.unusedSimpArgs false
set_option linter.unusedVariables false
set_option maxRecDepth 100000
open Go.RowKit
open Go.Proofs.YtihhflajkohibaaDoor
open Go.Proofs.YtihhflajkohibaaDoor.Link (LE Fr EndIs)
open Go.Proofs.YtihhflajkohibaaDoor.Net (NS NetIs)
theorem small_sent {x : LE} (h : x.Small) (b : ByteArray) : (x.sent b).Small ∧ (x.sent b).epoch = x.epoch := by
  unfold LE.sent
  split
  · next c =>
    refine ⟨⟨h.1, h.2.1, fun u hu => ?_⟩, rfl⟩
    rcases List.mem_append.1 hu with hu | hu
    · exact h.2.2 u hu
    · rw [List.mem_singleton.1 hu]; exact c.1
  · exact ⟨h, rfl⟩
theorem small_ticked {x : LE} (h : x.Small) : x.ticked.Small ∧ x.ticked.epoch = x.epoch := by
  unfold LE.ticked
  split
  · exact ⟨h, rfl⟩
  · split <;> exact ⟨h, rfl⟩
theorem small_taken {x : LE} (h : x.Small) (f : Fr) : (x.taken f).Small ∧ (x.taken f).epoch = x.epoch := by
  obtain ⟨k1, _⟩ := Link.taken_keep x f
  refine ⟨⟨by rw [k1]; exact h.1, by rw [k1]; exact h.2.1, fun u hu => ?_⟩, k1⟩
  cases hf : x.fits f
  · unfold LE.taken at hu
    rw [if_neg (by simp [hf])] at hu
    exact h.2.2 u hu
  · rw [(Link.taken_is x f hf).1] at hu
    exact h.2.2 u ((Link.came_sub x f).2.1 u hu)
/-- the ends' bodies stay small, their epochs are one; the net's size -/
structure Kin (E : Int) (mm : Nat) (s : PS) : Prop where
  e : ∀ b, (s.e b).Small ∧ (s.e b).epoch = E
  n : s.n.n = 2
  m : s.n.m = mm
section
variable {E : Int} {mm : Nat} {s : PS}
theorem Kin.start (epoch first window queue wait room : Int) (h0 : 0 ≤ epoch) (h1 : epoch ≤ 65535) : Kin epoch (Net.clampN room 1000) (new epoch first window queue wait room) := ⟨fun _ => ⟨⟨h0, h1, fun u hu => by simp [new, Link.new] at hu⟩, rfl⟩, rfl, rfl⟩
theorem Kin.up (h : Kin E mm s) {me : Bool} {z : LE} {g : Bool → List ByteArray} {n : NS} (hz : z.Small ∧ z.epoch = (s.e me).epoch) (hn : n.n = 2) (hm : n.m = mm) : Kin E mm ⟨up s.e me z, g, n⟩ :=
  ⟨up_all (P := fun x : LE => x.Small ∧ x.epoch = E) s.e me z h.e ⟨hz.1, hz.2.trans (h.e me).2⟩, hn, hm⟩
theorem Kin.net (h : Kin E mm s) {n : NS} (hn : n.n = 2) (hm : n.m = mm) : Kin E mm { s with n := n } := ⟨h.e, hn, hm⟩
theorem deliver_nm (n : NS) (a b k : Int) : (n.deliver a b k).n = n.n ∧ (n.deliver a b k).m = n.m := by unfold NS.deliver; split <;> exact ⟨rfl, rfl⟩
theorem send_nm (n : NS) (a b : Int) (t : ByteArray) : (n.send a b t).n = n.n ∧ (n.send a b t).m = n.m := by unfold NS.send; split <;> exact ⟨rfl, rfl⟩
theorem double_nm (n : NS) (a b k : Int) : (n.double a b k).n = n.n ∧ (n.double a b k).m = n.m := by
  unfold NS.double; split
  · exact send_nm _ _ _ _
  · exact ⟨rfl, rfl⟩
theorem flip_nm (n : NS) (a b k x : Int) : (n.flip a b k x).n = n.n ∧ (n.flip a b k x).m = n.m := by unfold NS.flip; split <;> exact ⟨rfl, rfl⟩
theorem Kin.lose (h : Kin E mm s) (me : Bool) (k : Int) : Kin E mm (s.lose me k) := h.net ((deliver_nm _ _ _ _).1.trans h.n) ((deliver_nm _ _ _ _).2.trans h.m)
theorem Kin.play {t : T10} (h : Kin E mm t.s) (me : Bool) (a : Act10) : Kin E mm (t.play me a).s := by
  obtain ⟨r1, r2, r3, r4, r5, r6, r7⟩ := t.s.go_row me
  unfold T10.play
  split
  · exact h.up (small_sent (h.e me).1 _) h.n h.m
  · split
    · exact h.up (z := (t.s.e me).gone) ⟨(h.e me).1, rfl⟩ (r5.trans h.n) (r6.trans h.m)
    · split
      · exact h.up (small_ticked (h.e me).1) h.n h.m
      · split
        · show Kin E mm (t.s.come me a.N)
          unfold PS.come
          have hl := h.lose me a.N
          split
          · exact hl.up (small_taken (h.e me).1 _) hl.n hl.m
          · exact hl
        · split
          · exact h.lose me a.N
          · split
            · exact h.net ((double_nm _ _ _ _).1.trans h.n) ((double_nm _ _ _ _).2.trans h.m)
            · exact h.net ((flip_nm _ _ _ _ _).1.trans h.n) ((flip_nm _ _ _ _ _).2.trans h.m)
end
section
variable {B : Nat} {M : M10} {t : T10} {X : List Thing} {w : World} {f0 : Int} {k : Nat} {E : Int} {mm : Nat}
def PlayAny3 (B : Nat) (M : M10) (X : List Thing) (f0 : Int) (E : Int) (mm k : Nat) (w : World) (e : Ending) (w' : World) : Prop :=
  ∃ (M' : M10) (t' : T10) (ok : Bool), M'.p = M.p ∧ e = .returned (.tuple #[.agg (M'.wc t'), .agg (M'.tc t'), .bool ok]) ∧ St10 B M' t' X w' ∧ Below B w w' ∧ Inv f0 (k + 1) t' ∧ Kin E mm t'.s
theorem play_any3 (h : St10 B M t X w) (hi : Inv f0 k t) (hq : Kin E mm t.s) (hk : k ≤ 100) (a : Act10) :
    Calls Tryd.prog 11 #[.pointer (some ⟨M.p, 0, none⟩), .agg a.cells.toArray, .agg (M.wc t), .agg (M.tc t)] w (PlayAny3 B M X f0 E mm k w) := by
  have hz := hi.sz hk
  by_cases hs : a.Side = 0 ∨ a.Side = 1
  · obtain ⟨K, sd, N, x, S⟩ := a
    have hs : sd = 0 ∨ sd = 1 := hs
    rcases hs with rfl | rfl
    · by_cases hb : K = 3 ∧ t.bad false N
      · obtain ⟨rfl, hb⟩ := hb
        refine (bad_false h hz N x S hb).mono ?_
        rintro e w' ⟨M', hp, he, hs, hb⟩
        exact ⟨M', t, false, hp, he, hs, hb, hi.more, hq⟩
      · refine (play_false h hz K N x S hb).mono ?_
        rintro e w' ⟨M', hp, he, hs, hb2⟩
        exact ⟨M', _, true, hp, he, hs, hb2, hi.play (by omega) false ⟨K, 0, N, x, S⟩ hb, hq.play _ _⟩
    · by_cases hb : K = 3 ∧ t.bad true N
      · obtain ⟨rfl, hb⟩ := hb
        refine (bad_true h hz N x S hb).mono ?_
        rintro e w' ⟨M', hp, he, hs, hb⟩
        exact ⟨M', t, false, hp, he, hs, hb, hi.more, hq⟩
      · refine (play_true h hz K N x S hb).mono ?_
        rintro e w' ⟨M', hp, he, hs, hb2⟩
        exact ⟨M', _, true, hp, he, hs, hb2, hi.play (by omega) true ⟨K, 1, N, x, S⟩ hb, hq.play _ _⟩
  · have hs : isSide a.Side = false := by
      cases h : isSide a.Side
      · rfl
      · exact absurd (isSide_iff.1 h) hs
    refine (play_not h a hs).mono ?_
    rintro e w' ⟨M', hp, he, hs, hb2⟩
    exact ⟨M', t, true, hp, he, hs, hb2, hi.more, hq⟩
end
namespace PS
variable (s : PS) (me : Bool)
/-- all that is on its way to the first sides is lost -/
def lostTo : Nat → PS
  | 0 => s
  | 1 => s.loseN false 1000
  | _ => (s.loseN false 1000).loseN true 1000
theorem lostTo_step : s.lostTo (me.toNat + 1) = (s.lostTo me.toNat).loseN me 1000 := by cases me <;> rfl
def halfTo : Nat → PS
  | 0 => s
  | 1 => s.half false
  | _ => (s.half false).half true
theorem halfTo_step : s.halfTo (me.toNat + 1) = (s.halfTo me.toNat).half me := by cases me <;> rfl
theorem come_g (k : Int) (n : Nat) (h : ∀ b, (s.g b).length ≤ n) : ∀ b, ((s.come me k).g b).length ≤ n + 1 := by
  unfold come
  split
  · refine up_len s.g me _ (n + 1) (fun b => Nat.le_trans (h b) (by omega)) ?_
    have := h me
    split
    · rw [List.length_append]; simp; exact this
    · exact Nat.le_trans this (by omega)
  · exact fun b => Nat.le_trans (h b) (by omega)
theorem comeN_g (n : Nat) (h : ∀ b, (s.g b).length ≤ n) (k : Nat) : ∀ b, ((s.comeN me k).g b).length ≤ n + k := by
  induction k with
  | zero => exact h
  | succ k ih => exact (s.comeN me k).come_g me 0 (n + k) ih
theorem ticks_go_g : ((s.ticksN me 100).go me).g = s.g := rfl
theorem half_g (n : Nat) (h : ∀ b, (s.g b).length ≤ n) : ∀ b, ((s.half me).g b).length ≤ n + 8 := by
  rw [← ticks_go_g s me] at h
  unfold half
  generalize (s.ticksN me 100).go me = s1 at *
  exact s1.comeN_g (!me) n h 8
theorem halfTo_one : s.halfTo 1 = s.half false := rfl
theorem halfTo_two (m : Nat) : s.halfTo (m + 2) = (s.half false).half true := rfl
theorem halfTo_g (n : Nat) (h : ∀ b, (s.g b).length ≤ n) (m : Nat) : ∀ b, ((s.halfTo m).g b).length ≤ n + 16 := by
  have h1 := s.half_g false n h
  have h2 := (s.half false).half_g true (n + 8) h1
  intro b
  match m with
  | 0 => exact Nat.le_trans (h b) (by omega)
  | 1 =>
    rw [halfTo_one]
    have := h1 b
    generalize s.half false = s1 at *
    omega
  | m + 2 =>
    rw [halfTo_two]
    have := h2 b
    generalize (s.half false).half true = s1 at *
    omega
theorem short_halfTo (h : Short s.n) (m : Nat) : Short (s.halfTo m).n := by
  have h1 := short_half h false
  have h2 := short_half h1 true
  match m with
  | 0 => exact h
  | 1 => rw [halfTo_one]; exact h1
  | m + 2 => rw [halfTo_two]; exact h2
end PS
section
variable {f0 : Int} {k : Nat} {t : T10} {E : Int} {mm : Nat}
theorem RdP.start (h : Inv f0 k t) (hq : Kin E mm t.s) (hn : t.s.n.Ok) (hm : 8 ≤ mm) : RdP f0 t.t 0 (t.s.lostTo 2) := by
  obtain ⟨o, hp, _⟩ := h.pair
  obtain ⟨a1, a2, a3, a4, a5, a6⟩ := t.s.loseN_row false 1000
  obtain ⟨b1, b2, b3, b4, b5, b6⟩ := (t.s.loseN false 1000).loseN_row true 1000
  have hlen : ∀ b, (t.s.row b).length ≤ 1000 := fun b => Nat.le_trans (hn.room _ _) hn.m1000
  have he : (t.s.lostTo 2).e = t.s.e := b5.trans a5
  have hg : (t.s.lostTo 2).g = t.s.g := b6.trans a6
  refine ⟨?_, ?_, ?_, ?_, PS.short_loseN _ _ (PS.short_loseN _ _ h.short 1000) 1000⟩
  · rw [he, hg]
    refine ⟨⟨_, _, hp⟩, ((hq.e true).2.trans (hq.e false).2.symm), (hq.e false).1, (hq.e true).1, .inl ?_, fun h => absurd h (by omega)⟩
    have := hp.okx
    have h1 := this.len
    have h2 := this.q64
    show (t.s.e false).bodies.length + 0 ≤ 64
    omega
  · intro b
    cases b
    · show ((t.s.loseN false 1000).loseN true 1000).row (!true) = []
      rw [b2]
      show (t.s.loseN false 1000).row false = []
      rw [a1]
      exact List.drop_of_length_le (hlen false)
    · show ((t.s.loseN false 1000).loseN true 1000).row true = []
      rw [b1]
      have a2' : (t.s.loseN false 1000).row true = t.s.row true := a2
      rw [a2']
      exact List.drop_of_length_le (hlen true)
  · show 8 ≤ ((t.s.loseN false 1000).loseN true 1000).n.m
    rw [b4, a4, hq.m]; exact hm
  · show ((t.s.loseN false 1000).loseN true 1000).n.n = 2
    rw [b3, a3, hq.n]
theorem RdP.g_le {S : Bool → List ByteArray} {r : Nat} {s : PS} (h : RdP f0 S r s) (n : Nat) (hS : ∀ b, (S b).length ≤ n) : ∀ b, (s.g b).length ≤ n := by
  obtain ⟨ox, oy, hp⟩ := h.rd.pair
  have hp : Link.Pair f0 (s.e false) (s.e true) (S false) (S true) (s.g false) (s.g true) ox oy := hp
  intro b
  cases b
  · exact Nat.le_trans (hp.back.law hp.oky).2.1 (hS true)
  · exact Nat.le_trans (hp.fwd.law hp.okx).2.1 (hS false)
end
/-- what stands between two acts -/
def AllK (f0 E : Int) (mm : Nat) (w : World) (p b1 b2 k : Nat) (wr : World) : Prop := ∃ (M : M10) (t : T10), M.p = p ∧ St10 w.heap.size M t [boxT b2 (M.tc t) 29, boxT b1 (M.wc t) 29] wr ∧ Below w.heap.size w wr ∧ Inv f0 k t ∧ Kin E mm t.s
/-- the pipe is s, all else as it was -/
def Now10 (w : World) (M : M10) (t : T10) (X : List Thing) (s : PS) (wr : World) : Prop := ∃ F, St10 w.heap.size { M with F := F } (t.pipe s) X wr ∧ Below w.heap.size w wr
section
variable {w wr : World} {M : M10} {t : T10} {X : List Thing} {s s' : PS}
theorem Now10.act (h : Now10 w M t X s wr) {f : FuncId} {args : Array Value} {v : Value} (k : ∀ F, PipeIs w.heap.size wr M.p F s → Env w.heap.size wr → Calls Tryd.prog f args wr (ActP w.heap.size wr M.p F s' v)) : Calls Tryd.prog f args wr fun e w' => e = .returned v ∧ Now10 w M t X s' w' := by
  obtain ⟨F, hs, hb⟩ := h
  refine (hs.act (k F hs.pipe hs.env)).mono ?_
  rintro e w' ⟨rfl, F', h1, h2⟩
  exact ⟨rfl, F', h1, hb.trans h2⟩
end
end Go.Proofs.YtihhflajkohibaaDoor.Pipe
