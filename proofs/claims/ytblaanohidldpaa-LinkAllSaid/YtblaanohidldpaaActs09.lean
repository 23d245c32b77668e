/- Layer 9: what is done, as it comes in: acts and frames, opened. Conditions: the reading of the argument. -/
import Derived.Test.YtblaanohidldpaaOpenAny
import Derived.Test.YtblaanohidldpaaLinkD
namespace Go.Proofs.Ytblaanohidldpaa.Link
set_option linter.unusedSimpArgs false
set_option linter.unusedVariables false
open Go.ChangeShapes Go.WideShapes Go.ChangeAt Go.RowKit Go.Deep

theorem u_wf {a : Int} (h : (Lit.int .u64 a).wf = true) : u a = a := by
  rw [u_eq]
  simp [Lit.wf, IntKind.min, IntKind.max, IntKind.bits, IntKind.signed] at h
  omega
def Fr.Good (f : Fr) : Prop := u f.seq = f.seq ∧ u f.ack = f.ack ∧ f.body.size ≤ maxLen
/-- an act -/
structure Act9 where
  K : Int
  N : Int
  side : Bool
  S : ByteArray
  F : Fr
def Act9.cells (a : Act9) : List Value := [.int .i64 a.K, .int .i64 a.N, .bool a.side, .string a.S, .int .i64 a.F.kind, .int .i64 a.F.epoch, .int .u64 a.F.seq, .int .u64 a.F.ack, .string a.F.body]
def Act9.Good (a : Act9) : Prop := a.S.size ≤ maxLen ∧ a.F.Good
section
variable {H : Type} {enc : TypeId × Value → H} {w : World} {base : Nat} {spare : Nat → Bool} {held : Bool}
theorem one_cell {t : TypeId} (h : Try.prog.cellsOf t = 1) (l : List Value) (n : Nat) : (l.drop n).take (Try.prog.cellsOf t) = (l.drop n).take 1 := by rw [h]
theorem frame_of {fuel : Nat} {cs : List Value} {y : DataW H × List MemPlace} (h : DataW.trod enc Try.prog w base spare held fuel 42 cs = some y) : ∃ f : Fr, cs = f.cells ∧ f.Good := by
  obtain ⟨xs, n, _, _, hl, hxl, hf⟩ := DataW.trod_struct Try.underlying42 h
  obtain ⟨c0, c1, c2, c3, c4, rfl⟩ := list5 (hl.trans (by kernel_rfl))
  have h0 : DataW.trod enc Try.prog w base spare held n 40 (([c0, c1, c2, c3, c4].drop 0).take (Try.prog.cellsOf 40)) = xs[0]? := hf 0 _ rfl
  rw [show Try.prog.cellsOf 40 = 1 from by kernel_rfl] at h0
  have h1 : DataW.trod enc Try.prog w base spare held n 3 (([c0, c1, c2, c3, c4].drop 1).take (Try.prog.cellsOf 3)) = xs[1]? := hf 1 _ rfl
  rw [show Try.prog.cellsOf 3 = 1 from by kernel_rfl] at h1
  have h2 : DataW.trod enc Try.prog w base spare held n 22 (([c0, c1, c2, c3, c4].drop 2).take (Try.prog.cellsOf 22)) = xs[2]? := hf 2 _ rfl
  rw [show Try.prog.cellsOf 22 = 1 from by kernel_rfl] at h2
  have h3 : DataW.trod enc Try.prog w base spare held n 22 (([c0, c1, c2, c3, c4].drop 3).take (Try.prog.cellsOf 22)) = xs[3]? := hf 3 _ rfl
  rw [show Try.prog.cellsOf 22 = 1 from by kernel_rfl] at h3
  have h4 : DataW.trod enc Try.prog w base spare held n 9 (([c0, c1, c2, c3, c4].drop 4).take (Try.prog.cellsOf 9)) = xs[4]? := hf 4 _ rfl
  rw [show Try.prog.cellsOf 9 = 1 from by kernel_rfl] at h4
  have e : ∀ i, i < 5 → ∃ z, xs[i]? = some z := fun i hi => ⟨_, List.getElem?_eq_getElem (by rw [hxl]; exact hi)⟩
  obtain ⟨z0, e0⟩ := e 0 (by omega)
  obtain ⟨z1, e1⟩ := e 1 (by omega)
  obtain ⟨z2, e2⟩ := e 2 (by omega)
  obtain ⟨z3, e3⟩ := e 3 (by omega)
  obtain ⟨z4, e4⟩ := e 4 (by omega)
  obtain ⟨k, hk, _⟩ := DataW.trod_int Try.underlying40 (h0.trans e0)
  obtain ⟨p, hp, _⟩ := DataW.trod_int Try.underlying3 (h1.trans e1)
  obtain ⟨s, hs, _, ws⟩ := DataW.trod_int Try.underlying22 (h2.trans e2)
  obtain ⟨a, ha, _, wa⟩ := DataW.trod_int Try.underlying22 (h3.trans e3)
  obtain ⟨b, hb, _, wb⟩ := DataW.trod_string Try.underlying9 (h4.trans e4)
  simp at hk hp hs ha hb
  subst hk; subst hp; subst hs; subst ha; subst hb
  exact ⟨⟨k, p, s, a, b⟩, rfl, u_wf ws, u_wf wa, wb⟩
theorem act_of {fuel : Nat} {cs : List Value} {y : DataW H × List MemPlace} (h : DataW.trod enc Try.prog w base spare held fuel 44 cs = some y) : ∃ a : Act9, cs = a.cells ∧ a.Good := by
  obtain ⟨xs, n, _, _, hl, hxl, hf⟩ := DataW.trod_struct Try.underlying44 h
  obtain ⟨c0, c1, c2, c3, c4, c5, c6, c7, c8, rfl⟩ := list9 (hl.trans (by kernel_rfl))
  have h0 : DataW.trod enc Try.prog w base spare held n 3 (([c0, c1, c2, c3, c4, c5, c6, c7, c8].drop 0).take (Try.prog.cellsOf 3)) = xs[0]? := hf 0 _ rfl
  rw [show Try.prog.cellsOf 3 = 1 from by kernel_rfl] at h0
  have h1 : DataW.trod enc Try.prog w base spare held n 3 (([c0, c1, c2, c3, c4, c5, c6, c7, c8].drop 1).take (Try.prog.cellsOf 3)) = xs[1]? := hf 1 _ rfl
  rw [show Try.prog.cellsOf 3 = 1 from by kernel_rfl] at h1
  have h2 : DataW.trod enc Try.prog w base spare held n 4 (([c0, c1, c2, c3, c4, c5, c6, c7, c8].drop 2).take (Try.prog.cellsOf 4)) = xs[2]? := hf 2 _ rfl
  rw [show Try.prog.cellsOf 4 = 1 from by kernel_rfl] at h2
  have h3 : DataW.trod enc Try.prog w base spare held n 9 (([c0, c1, c2, c3, c4, c5, c6, c7, c8].drop 3).take (Try.prog.cellsOf 9)) = xs[3]? := hf 3 _ rfl
  rw [show Try.prog.cellsOf 9 = 1 from by kernel_rfl] at h3
  have h4 : DataW.trod enc Try.prog w base spare held n 42 (([c0, c1, c2, c3, c4, c5, c6, c7, c8].drop 4).take (Try.prog.cellsOf 42)) = xs[4]? := hf 4 _ rfl
  rw [show Try.prog.cellsOf 42 = 5 from by kernel_rfl] at h4
  have e : ∀ i, i < 5 → ∃ z, xs[i]? = some z := fun i hi => ⟨_, List.getElem?_eq_getElem (by rw [hxl]; exact hi)⟩
  obtain ⟨z0, e0⟩ := e 0 (by omega)
  obtain ⟨z1, e1⟩ := e 1 (by omega)
  obtain ⟨z2, e2⟩ := e 2 (by omega)
  obtain ⟨z3, e3⟩ := e 3 (by omega)
  obtain ⟨z4, e4⟩ := e 4 (by omega)
  obtain ⟨k, hk, _⟩ := DataW.trod_int Try.underlying3 (h0.trans e0)
  obtain ⟨p, hp, _⟩ := DataW.trod_int Try.underlying3 (h1.trans e1)
  obtain ⟨s, hs, _⟩ := DataW.trod_bool Try.underlying4 (h2.trans e2)
  obtain ⟨a, ha, _, wa⟩ := DataW.trod_string Try.underlying9 (h3.trans e3)
  obtain ⟨f, hfr, gf⟩ := frame_of (h4.trans e4)
  simp [Fr.cells] at hk hp hs ha hfr
  obtain ⟨rfl, rfl, rfl, rfl, rfl⟩ := hfr
  subst hk; subst hp; subst hs; subst ha
  exact ⟨⟨k, p, s, a, f⟩, rfl, wa, gf⟩
end
/-- where an act of the row lies -/
structure ActAt (w : World) (g o : Nat) (a : Act9) : Prop where
  c0 : w.cell? ⟨g, o, none⟩ = some (.int .i64 a.K)
  c1 : w.cell? ⟨g, o + 1, none⟩ = some (.int .i64 a.N)
  c2 : w.cell? ⟨g, o + 2, none⟩ = some (.bool a.side)
  c3 : w.cell? ⟨g, o + 3, none⟩ = some (.string a.S)
  c4 : w.cell? ⟨g, o + 4, none⟩ = some (.int .i64 a.F.kind)
  c5 : w.cell? ⟨g, o + 5, none⟩ = some (.int .i64 a.F.epoch)
  c6 : w.cell? ⟨g, o + 6, none⟩ = some (.int .u64 a.F.seq)
  c7 : w.cell? ⟨g, o + 7, none⟩ = some (.int .u64 a.F.ack)
  c8 : w.cell? ⟨g, o + 8, none⟩ = some (.string a.F.body)
theorem acts_at {w : World} {lo hi : Nat} {A : Option Addr} {l : List Act9} (h : Sl w lo hi 9 A l.length (l.flatMap Act9.cells)) {k : Nat} (hk : k < l.length) : ∃ g o, A = some ⟨g, o, none⟩ ∧ lo ≤ g ∧ g < hi ∧ ActAt w g (o + k * 9) l[k] := by
  obtain ⟨g, o, e, h1, h2, hc⟩ := h.2 (by omega)
  have hat : ∀ r u, r < 9 → (l[k].cells)[r]? = some u → w.cell? ⟨g, o + (k * 9 + r), none⟩ = some u := fun r u hr hu => hc _ u (by
    rw [flat_get (size := 9) (fun _ => rfl) l k r hr, List.getElem?_eq_getElem hk]; exact hu)
  refine ⟨g, o, e, h1, h2, hat 0 _ (by omega) rfl, ?_, ?_, ?_, ?_, ?_, ?_, ?_, ?_⟩
  · rw [Nat.add_assoc]; exact hat 1 _ (by omega) rfl
  · rw [Nat.add_assoc]; exact hat 2 _ (by omega) rfl
  · rw [Nat.add_assoc]; exact hat 3 _ (by omega) rfl
  · rw [Nat.add_assoc]; exact hat 4 _ (by omega) rfl
  · rw [Nat.add_assoc]; exact hat 5 _ (by omega) rfl
  · rw [Nat.add_assoc]; exact hat 6 _ (by omega) rfl
  · rw [Nat.add_assoc]; exact hat 7 _ (by omega) rfl
  · rw [Nat.add_assoc]; exact hat 8 _ (by omega) rfl
end Go.Proofs.Ytblaanohidldpaa.Link
