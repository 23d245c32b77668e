/- A frame as an argument by value: opened, and read again. Conditions: the reading of the argument. -/
import Derived.Test.YtblaanohidldpaaFrRight
import Derived.ChangeArms
import Derived.ChangeSame
import Derived.Lib.SmallJoins
import Derived.OpenShut
import Derived.ShutString
import Derived.ProofKit
namespace Go.Proofs.Ytblaanohidldpaa.Link
set_option linter.unusedSimpArgs false
set_option linter.unusedVariables false
open Go.ChangeShapes Go.WideShapes Go.ChangeAt Go.RowKit Go.Deep Go.Joins

/-- a frame's fields are in range -/
structure FrOk (f : Fr) : Prop where
  k : (Lit.int .i64 f.kind).wf = true
  e : (Lit.int .i64 f.epoch).wf = true
  s : (Lit.int .u64 f.seq).wf = true
  a : (Lit.int .u64 f.ack).wf = true
  b : f.body.size ≤ maxLen
def frData {H : Type} (f : Fr) : DataW H := .agg [.lit (.int .i64 f.kind), .lit (.int .i64 f.epoch), .lit (.int .u64 f.seq), .lit (.int .u64 f.ack), .lit (.string f.body.data.toList)]
theorem FrOk.seq {f : Fr} (h : FrOk f) : 0 ≤ f.seq ∧ f.seq < 18446744073709551616 := by
  have := h.s
  simp [Lit.wf, IntKind.min, IntKind.max, IntKind.bits, IntKind.signed] at this
  omega
theorem FrOk.ack {f : Fr} (h : FrOk f) : 0 ≤ f.ack ∧ f.ack < 18446744073709551616 := by
  have := h.a
  simp [Lit.wf, IntKind.min, IntKind.max, IntKind.bits, IntKind.signed] at this
  omega
theorem five {l : List Value} (h : l.length = 5) : ∃ a b c d e, l = [a, b, c, d, e] := by
  match l, h with
  | [a, b, c, d, e], _ => exact ⟨a, b, c, d, e, rfl⟩
theorem fiveY {α : Type} {l : List α} (h : l.length = 5) : ∃ a b c d e, l = [a, b, c, d, e] := by
  match l, h with
  | [a, b, c, d, e], _ => exact ⟨a, b, c, d, e, rfl⟩
section
variable {H : Type} {enc : TypeId × Value → H} {w : World} {base : Nat} {spare : Nat → Bool} {held : Bool}
theorem frame_cells {fuel : Nat} {cs : List Value} {y : DataW H × List MemPlace} (h : DataW.trod enc Try.prog w base spare held fuel 42 cs = some y) :
    ∃ f : Fr, cs = [.int .i64 f.kind, .int .i64 f.epoch, .int .u64 f.seq, .int .u64 f.ack, .string f.body] ∧ y = (frData f, []) ∧ FrOk f := by
  obtain ⟨xs, n, _, hy, hl, hxl, hf⟩ := DataW.trod_struct Try.underlying42 h
  obtain ⟨c0, c1, c2, c3, c4, rfl⟩ := five (hl.trans (by kernel_rfl))
  obtain ⟨y0, y1, y2, y3, y4, rfl⟩ := fiveY (hxl.trans rfl)
  have h0 : DataW.trod enc Try.prog w base spare held n 40 (([c0, c1, c2, c3, c4].drop 0).take (Try.prog.cellsOf 40)) = some y0 := hf 0 _ rfl
  rw [show Try.prog.cellsOf 40 = 1 from by kernel_rfl] at h0
  have h1 : DataW.trod enc Try.prog w base spare held n 3 (([c0, c1, c2, c3, c4].drop 1).take (Try.prog.cellsOf 3)) = some y1 := hf 1 _ rfl
  rw [show Try.prog.cellsOf 3 = 1 from by kernel_rfl] at h1
  have h2 : DataW.trod enc Try.prog w base spare held n 22 (([c0, c1, c2, c3, c4].drop 2).take (Try.prog.cellsOf 22)) = some y2 := hf 2 _ rfl
  rw [show Try.prog.cellsOf 22 = 1 from by kernel_rfl] at h2
  have h3 : DataW.trod enc Try.prog w base spare held n 22 (([c0, c1, c2, c3, c4].drop 3).take (Try.prog.cellsOf 22)) = some y3 := hf 3 _ rfl
  rw [show Try.prog.cellsOf 22 = 1 from by kernel_rfl] at h3
  have h4 : DataW.trod enc Try.prog w base spare held n 9 (([c0, c1, c2, c3, c4].drop 4).take (Try.prog.cellsOf 9)) = some y4 := hf 4 _ rfl
  rw [show Try.prog.cellsOf 9 = 1 from by kernel_rfl] at h4
  obtain ⟨k, hk, rfl, wk⟩ := DataW.trod_int Try.underlying40 h0
  obtain ⟨p, hp, rfl, we⟩ := DataW.trod_int Try.underlying3 h1
  obtain ⟨s, hs, rfl, ws⟩ := DataW.trod_int Try.underlying22 h2
  obtain ⟨a, ha, rfl, wa⟩ := DataW.trod_int Try.underlying22 h3
  obtain ⟨b, hb, rfl, wb⟩ := DataW.trod_string Try.underlying9 h4
  simp at hk hp hs ha hb
  subst hk; subst hp; subst hs; subst ha; subst hb
  exact ⟨⟨k, p, s, a, b⟩, rfl, by rw [hy]; simp [frData], ⟨wk, we, ws, wa, wb⟩⟩
set_option maxRecDepth 100000 in
theorem frame_arg {r : Reach} {b0 : Nat} {v : Value} {d : DataW H} {p : List MemPlace} (hv : Value.okWide Try.prog w r b0 42 v) (h : DataW.Trod enc Try.prog w base spare held 42 v d p) :
    ∃ f : Fr, v = f.val ∧ d = frData f ∧ p = [] ∧ FrOk f := by
  obtain ⟨cs, rfl, hsz⟩ := okWide_struct Try.underlying42 hv
  obtain ⟨fuel, hf⟩ := h
  obtain ⟨f, hc, hy, ok⟩ := frame_cells hf
  simp only [Prod.mk.injEq] at hy
  refine ⟨f, ?_, hy.1, hy.2, ok⟩
  have : cs = #[.int .i64 f.kind, .int .i64 f.epoch, .int .u64 f.seq, .int .u64 f.ack, .string f.body] := Array.toList_inj.1 hc
  rw [this]; rfl
set_option maxRecDepth 100000 in
theorem frame_shut {f : Fr} (ok : FrOk f) : DataW.Trod enc Try.prog w base spare held 42 f.val (frData f) [] := by
  have e0 : DataW.trod enc Try.prog w base spare held 1 40 [.int .i64 f.kind] = some (.lit (.int .i64 f.kind), []) := by simp [DataW.trod, Try.underlying40, ok.k]
  have e1 : DataW.trod enc Try.prog w base spare held 1 3 [.int .i64 f.epoch] = some (.lit (.int .i64 f.epoch), []) := by simp [DataW.trod, Try.underlying3, ok.e]
  have e2 : DataW.trod enc Try.prog w base spare held 1 22 [.int .u64 f.seq] = some (.lit (.int .u64 f.seq), []) := by simp [DataW.trod, Try.underlying22, ok.s]
  have e3 : DataW.trod enc Try.prog w base spare held 1 22 [.int .u64 f.ack] = some (.lit (.int .u64 f.ack), []) := by simp [DataW.trod, Try.underlying22, ok.a]
  have e4 : DataW.trod enc Try.prog w base spare held 1 9 [.string f.body] = some (.lit (.string f.body.data.toList), []) := by simp [DataW.trod, Try.underlying9, ok.b]
  have c0 : Try.prog.cellsOf 40 = 1 := by kernel_rfl
  have c1 : Try.prog.cellsOf 3 = 1 := by kernel_rfl
  have c2 : Try.prog.cellsOf 22 = 1 := by kernel_rfl
  have c4 : Try.prog.cellsOf 9 = 1 := by kernel_rfl
  have cf : Try.prog.cellsOf 42 = 5 := by kernel_rfl
  have := trod_struct_mk (enc := enc) (P := Try.prog) (w := w) (base := base) (spare := spare) (held := held) (n := 1) (cs := [.int .i64 f.kind, .int .i64 f.epoch, .int .u64 f.seq, .int .u64 f.ack, .string f.body])
    (xs := [(.lit (.int .i64 f.kind), []), (.lit (.int .i64 f.epoch), []), (.lit (.int .u64 f.seq), []), (.lit (.int .u64 f.ack), []), (.lit (.string f.body.data.toList), [])]) Try.underlying42 (by rw [cf]; rfl) (by simp [c0, c1, c2, c4, e0, e1, e2, e3, e4])
  exact ⟨2, by simpa [Value.cells, Fr.val, frData] using this⟩
end
end Go.Proofs.Ytblaanohidldpaa.Link
