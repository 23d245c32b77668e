/- Layer 10: a pipe in memory, and beside it the reference's value in a block. Conditions: both lie. -/
import Derived.Test.YtihhflajkohibaaGreatDoorRfMany
import Derived.Test.YtihhflajkohibaaGreatDoorActs10
namespace Go.Proofs.YtihhflajkohibaaGreatDoor.Pipe
set_option linter.unusedSimpArgs false
set_option linter.unusedVariables false
set_option maxRecDepth 100000
open Go.RowKit
open Go.Proofs.YtihhflajkohibaaGreatDoor
open Go.Proofs.YtihhflajkohibaaGreatDoor.Link (LE Fr EndIs)
open Go.Proofs.YtihhflajkohibaaGreatDoor.Net (NS NetIs)
/-- the pipe s behind p, the value t in block b, an act in block c -/
structure Pic (w0 : World) (p b c : Nat) (a : Act10) (s t : PS) (M : RM) (K : Nat) (F : List Nat) (w : World) : Prop where
  is : PipeIs w0.heap.size w p F s
  below : Below w0.heap.size w0 w
  env : Env w0.heap.size w
  box : RBox w b (M.rc t)
  ref : RIs w M t K
  bF : b ∉ F
  bM : b ∉ M.all
  ap : ∀ k, k ∈ M.all → k ∉ F
  nb : w0.heap.size ≤ b
  act : w.heap[c]? = some (.cells a.cells.toArray 38 (0, 0))
  cF : c ∉ F
  cb : c ≠ b
  nc : w0.heap.size ≤ c
section
variable {w0 w w' w'' : World} {p b c : Nat} {a : Act10} {s t s' t' : PS} {M M' : RM} {K J : Nat} {F F' : List Nat}
theorem Pic.turn (h : Pic w0 p b c a s t M K F w) (hn : PipeIs w0.heap.size w' p F' s') (ht : Turns F F' w w') : Pic w0 p b c a s' t M K F' w' := by
  have hB := lt_of_block h.box
  have hC := lt_of_block h.act
  have hb := h.is.under h.env.le ht
  exact ⟨hn, h.below.trans hb, h.env.below hb, (ht.kept.block b hB h.bF).trans h.box, h.ref.kept ht.kept h.ap, fun hm => (ht.new b hm).elim h.bF (fun h1 => by omega), h.bM,
    fun k hk hm => (ht.new k hm).elim (h.ap k hk) (fun h1 => by have := h.ref.lt k hk; omega), h.nb, (ht.kept.block c hC h.cF).trans h.act, fun hm => (ht.new c hm).elim h.cF (fun h1 => by omega), h.cb, h.nc⟩
theorem Pic.after (h : Pic w0 p b c a s t M K F w) (hb : Below w.heap.size w w') : Pic w0 p b c a s t M K F w' :=
  ⟨h.is.after hb, h.below.trans (hb.mono h.env.le), h.env.below (hb.mono h.env.le), (hb.block b (lt_of_block h.box)).trans h.box, h.ref.after hb, h.bF, h.bM, h.ap, h.nb, (hb.block c (lt_of_block h.act)).trans h.act, h.cF, h.cb, h.nc⟩
theorem Pic.drewN (h : Pic w0 p b c a s t M K F w) (n : Nat) : Pic w0 p b c a s t M K F (w.drewN n) := h.after (below_drewN (Below.refl _ _) n)
theorem Pic.more (h : Pic w0 p b c a s t M K F w) (hJ : K ≤ J) : Pic w0 p b c a s t M J F w := { h with ref := h.ref.more hJ }
/-- a new value beside the old one, that is put in its place -/
theorem Pic.put (h : Pic w0 p b c a s t M K F w) (hb : Below w.heap.size w w') (hr : RIs w' M' t' J) (hM : ∀ k, k ∈ M'.all → k ∈ M.all ∨ w.heap.size ≤ k) (hq : RBox w'' b (M'.rc t')) (hk : Kept [b] w' w'') : Pic w0 p b c a s t' M' J F w'' := by
  have hB := lt_of_block h.box
  have h1 := h.after hb
  have hbM : b ∉ M'.all := fun hm => (hM b hm).elim h.bM (fun h1 => by omega)
  have hk2 : Below w0.heap.size w' w'' := hk.below (Nat.le_trans h.env.le hb.size) (by simp; exact h.nb)
  refine ⟨h1.is.keep hk.size (fun k hm => hk.block k (h1.is.lt hm) (by simp; rintro rfl; exact h.bF hm)), h1.below.trans hk2, h1.env.below hk2, hq, hr.kept hk (fun k hm => by simp; rintro rfl; exact hbM hm), h.bF, hbM, fun k hm hf => (hM k hm).elim (fun h2 => h.ap k h2 hf) (fun h2 => by have := h.is.lt hf; omega), h.nb,
    (hk.block c (lt_of_block h1.act) (by simp; exact h.cb)).trans h1.act, h.cF, h.cb, h.nc⟩
/-- the cells of the act -/
structure Five (w : World) (c : Nat) (a : Act10) : Prop where
  c0 : w.cell? ⟨c, 0, none⟩ = some (.int .i64 a.K)
  c1 : w.cell? ⟨c, 1, none⟩ = some (.int .i64 a.Side)
  c2 : w.cell? ⟨c, 2, none⟩ = some (.int .i64 a.N)
  c3 : w.cell? ⟨c, 3, none⟩ = some (.int .i64 a.X)
  c4 : w.cell? ⟨c, 4, none⟩ = some (.string a.S)
theorem Pic.five (h : Pic w0 p b c a s t M K F w) : Five w c a := by
  constructor <;> (rw [cell_of_block h.act]; rfl)
/-- an act of the pipe -/
theorem Pic.does (h : Pic w0 p b c a s t M K F w) {f : FuncId} {args : Array Value} {v : Value} (k : Calls Tryz.prog f args w (ActP w0.heap.size w p F s' v)) : Calls Tryz.prog f args w fun e w' => e = .returned v ∧ ∃ F', Pic w0 p b c a s' t M K F' w' := by
  refine k.mono ?_
  rintro e w' ⟨rfl, F', h1, h2⟩
  exact ⟨rfl, F', h.turn h1 h2⟩
end
end Go.Proofs.YtihhflajkohibaaGreatDoor.Pipe
