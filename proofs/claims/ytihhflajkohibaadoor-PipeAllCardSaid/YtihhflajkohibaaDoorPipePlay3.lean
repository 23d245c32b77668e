/- Layer 10: an act, whatever its side; what many acts keep. Conditions: all lies apart from each other (St10); what is kept (Inv). -/
import Derived.Test.YtihhflajkohibaaDoorPipePlay2
import Derived.Test.YtihhflajkohibaaDoorFrVec
namespace Go.Proofs.YtihhflajkohibaaDoor.Pipe
set_option linter.unusedSimpArgs false
set_option linter.unusedVariables false
set_option maxRecDepth 100000
open Go.RowKit
open Go.Proofs.YtihhflajkohibaaDoor
open Go.Proofs.YtihhflajkohibaaDoor.Link (LE Fr EndIs)
open Go.Proofs.YtihhflajkohibaaDoor.Net (NS NetIs)
theorem tup3 {a b c a' b' c' : Value} (h : Value.tuple #[a, b, c] = .tuple #[a', b', c']) : a = a' ∧ b = b' ∧ c = c' := by simpa using h
theorem vec_take {w : World} {F : List Nat} {A : Option Addr} {n c k : Nat} {cs : List Value} (h : Vec w F 1 A n c cs) (hk : k ≤ n) : Vec w F 1 A k c (cs.take k) := by
  have hl := h.len
  refine ⟨by rw [List.length_take]; omega, Nat.le_trans hk h.le, h.max, h.place.imp id ?_⟩
  rintro ⟨g, off, rfl, rfl, hg, hr, ht⟩
  refine ⟨g, off, rfl, rfl, hg, fun j v hj => ?_, ht⟩
  rw [List.getElem?_take] at hj
  split at hj
  · exact hr j v hj
  · cases hj
section
variable {B : Nat} {M : M10} {t : T10} {X : List Thing} {w : World} {f0 : Int} {k : Nat}
theorem Inv.sz (h : Inv f0 k t) (hk : k ≤ 100) : Sz10 t := ⟨h.short, fun b => Nat.le_trans (h.gl b) (by omega), fun b => Nat.le_trans (h.wl b) (by omega), fun b => Nat.le_trans (h.tl b) (by omega)⟩
theorem Inv.play (h : Inv f0 k t) (hk : k < 500) (me : Bool) (a : Act10) (hb : ¬ (a.K = 3 ∧ t.bad me a.N)) : Inv f0 (k + 1) (t.play me a) := by
  unfold T10.play
  split
  · exact h.send me a.S hk
  · split
    · exact h.go me
    · split
      · exact (h.tick me).more
      · split
        · next h3 => exact (h.come me a.N (fun hbad => hb ⟨h3, hbad⟩)).more
        · split
          · exact (h.lose me a.N).more
          · split
            · exact (h.double me a.N).more
            · exact (h.flip me a.N a.X).more
/-- what an act answers -/
def PlayAny (B : Nat) (M : M10) (X : List Thing) (f0 : Int) (k : Nat) (t : T10) (w : World) (e : Ending) (w' : World) : Prop :=
  ∃ (M' : M10) (t' : T10) (ok : Bool), M'.p = M.p ∧ e = .returned (.tuple #[.agg (M'.wc t'), .agg (M'.tc t'), .bool ok]) ∧ St10 B M' t' X w' ∧ Below B w w' ∧ Inv f0 (k + 1) t'
theorem play_any (h : St10 B M t X w) (hi : Inv f0 k t) (hk : k ≤ 100) (a : Act10) :
    Calls Tryd.prog 11 #[.pointer (some ⟨M.p, 0, none⟩), .agg a.cells.toArray, .agg (M.wc t), .agg (M.tc t)] w (PlayAny B M X f0 k t w) := by
  have hz := hi.sz hk
  by_cases hs : a.Side = 0 ∨ a.Side = 1
  · obtain ⟨K, sd, N, x, S⟩ := a
    have hs : sd = 0 ∨ sd = 1 := hs
    rcases hs with rfl | rfl
    · by_cases hb : K = 3 ∧ t.bad false N
      · obtain ⟨rfl, hb⟩ := hb
        refine (bad_false h hz N x S hb).mono ?_
        rintro e w' ⟨M', hp, he, hs, hb⟩
        exact ⟨M', t, false, hp, he, hs, hb, hi.more⟩
      · refine (play_false h hz K N x S hb).mono ?_
        rintro e w' ⟨M', hp, he, hs, hb2⟩
        exact ⟨M', _, true, hp, he, hs, hb2, hi.play (by omega) false ⟨K, 0, N, x, S⟩ hb⟩
    · by_cases hb : K = 3 ∧ t.bad true N
      · obtain ⟨rfl, hb⟩ := hb
        refine (bad_true h hz N x S hb).mono ?_
        rintro e w' ⟨M', hp, he, hs, hb⟩
        exact ⟨M', t, false, hp, he, hs, hb, hi.more⟩
      · refine (play_true h hz K N x S hb).mono ?_
        rintro e w' ⟨M', hp, he, hs, hb2⟩
        exact ⟨M', _, true, hp, he, hs, hb2, hi.play (by omega) true ⟨K, 1, N, x, S⟩ hb⟩
  · have hs : isSide a.Side = false := by
      cases h : isSide a.Side
      · rfl
      · exact absurd (isSide_iff.1 h) hs
    refine (play_not h a hs).mono ?_
    rintro e w' ⟨M', hp, he, hs, hb2⟩
    exact ⟨M', t, true, hp, he, hs, hb2, hi.more⟩
theorem St10.got (h : St10 B M t X w) (me : Bool) (hl : (t.s.g me).length ≤ 1000000) : Calls Tryd.prog 12 #[.pointer (some ⟨M.p, 0, none⟩), .int .i64 (no me)] w fun e w' => ∃ A' c' G', e = .returned (.slice A' (t.s.g me).length c') ∧ Vec w' G' 1 A' (t.s.g me).length c' ((t.s.g me).map .string) ∧ St10 B M t X w' ∧ Below B w w' := by
  refine (got_yes h.pipe me hl).mono ?_
  rintro e w' ⟨A', c', G', rfl, h1, h2, h3⟩
  exact ⟨A', c', G', rfl, h1, h.after h3, h3.mono h.le⟩
/-- a new pipe beside two rows of nothing -/
theorem St10.start {p : Nat} {s : PS} {w0 : World} (h : Stand w0 p s w) : ∃ F, St10 w0.heap.size ⟨p, F, fun _ => ⟨none, 0, []⟩, fun _ => ⟨none, 0, []⟩⟩ ⟨s, fun _ => [], fun _ => []⟩ [] w := by
  obtain ⟨F, hF⟩ := h.is
  refine ⟨F, ?_, h.env⟩
  have h1 : Sep w0.heap.size w [pipeT w0.heap.size p F s] := .cons _ _ hF (pipeT_local _ _ _ _) hF.new (fun m hm => by cases hm) .nil
  have e : ∀ l, Sep w0.heap.size w l → Sep w0.heap.size w (txT ⟨none, 0, []⟩ [] :: l) := fun l h => sep_nil_tx h
  have h2 := e _ (e _ (e _ (e _ h1)))
  exact Sep.perm h2 (List.perm_append_comm (l₁ := [txT ⟨none, 0, []⟩ [], txT ⟨none, 0, []⟩ [], txT ⟨none, 0, []⟩ [], txT ⟨none, 0, []⟩ []]) (l₂ := [pipeT w0.heap.size p F s]))
end
/-- what stands between two acts: the pipe, and the two boxes of what went and what was sent -/
def OnceK (f0 : Int) (w : World) (p b1 b2 k : Nat) (wr : World) : Prop := ∃ (M : M10) (t : T10), M.p = p ∧ St10 w.heap.size M t [boxT b2 (M.tc t) 29, boxT b1 (M.wc t) 29] wr ∧ Below w.heap.size w wr ∧ Inv f0 k t
end Go.Proofs.YtihhflajkohibaaDoor.Pipe
