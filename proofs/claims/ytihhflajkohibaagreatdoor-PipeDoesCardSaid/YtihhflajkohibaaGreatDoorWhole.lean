/- Whole structs: a store into a whole block, and results that lie in a block. Plain facts on worlds; no function of the program. -/
import Derived.Test.YtihhflajkohibaaGreatDoorVec
namespace Go.Proofs.YtihhflajkohibaaGreatDoor
set_option linter.unusedSimpArgs false
set_option linter.unusedVariables false
set_option maxRecDepth 100000
open Go.RowKit

theorem ret_eq {a b : Value} (h : a = b) : Ending.returned a = .returned b := by rw [h]
theorem heap_new_at (w : World) (o : Obj) (k : Nat) (h : w.heap.size = k) : (w.alloc o).heap[k]? = some o := by subst h; exact heap_alloc_new w o
theorem setCells_all (g : Nat) (t : TypeId) (vs : List Value) : ∀ (pre post : List Value) (w : World), w.heap[g]? = some (.cells (pre ++ post).toArray t (0, 0)) → post.length = vs.length →
    (w.setCells g pre.length vs).heap[g]? = some (.cells (pre ++ vs).toArray t (0, 0)) := by
  induction vs with
  | nil => intro pre post w h hl; obtain rfl : post = [] := List.eq_nil_of_length_eq_zero (by simpa using hl); exact h
  | cons v vs ih =>
    intro pre post w h hl
    cases post with
    | nil => simp at hl
    | cons p post =>
      have h1 := set_block h pre.length v
      have h2 := ih (pre ++ [v]) post (w.setCell ⟨g, pre.length, none⟩ v) (by rw [h1]; simp) (by simpa using hl)
      rw [List.append_assoc, List.singleton_append, show (pre ++ [v]).length = pre.length + 1 from by simp] at h2
      exact h2
section
variable {P : Program} {w : World}
theorem wp_store_all {o : Oper} {a : Act} {K : Act → World → Prop} {Q : Exit → Act → World → Prop} (ty : TypeId) (x y : Operand) (ho : o.op = .store ty x y)
    (g : Nat) (old cells : Array Value) (T : TypeId) (hx : a.eval x = .pointer (some ⟨g, 0, none⟩)) (hy : a.eval y = .agg cells) (hg : w.heap[g]? = some (.cells old T (0, 0))) (hs : old.size = cells.size)
    (hi : (P.info? ty).map (·.size) = some cells.size) (h1 : cells.all (·.oneCell') = true)
    (h : ∀ w', w'.heap[g]? = some (.cells cells T (0, 0)) → Kept [g] w w' → K (a.put o.dst undef) w') : o.wp P a w K Q := by
  refine wp_store_mid ty x y ho g 0 cells hx hy (fun j hj => ?_) hi h1 (h _ ?_ (setCells_kept g _ _ w))
  · rw [Nat.zero_add, cell_of_block hg]
    exact ⟨by rw [Array.getElem?_eq_getElem (by omega)]; rfl, frozen_of_block hg j⟩
  · have := setCells_all g T cells.toList [] old.toList w (by simpa using hg) (by simpa using hs)
    simpa using this
theorem wpList_store_all {ops : Array Oper} {rest : List Oper} {o : Oper} {a : Act} {Q : Exit → Act → World → Prop} (hgd : o.guard = none) (ty : TypeId) (x y : Operand) (ho : o.op = .store ty x y)
    (g : Nat) (old cells : Array Value) (T : TypeId) (hx : a.eval x = .pointer (some ⟨g, 0, none⟩)) (hy : a.eval y = .agg cells) (hg : w.heap[g]? = some (.cells old T (0, 0))) (hs : old.size = cells.size)
    (hi : (P.info? ty).map (·.size) = some cells.size) (h1 : cells.all (·.oneCell') = true)
    (h : ∀ w', w'.heap[g]? = some (.cells cells T (0, 0)) → Kept [g] w w' → wpList P ops Q rest (a.put o.dst undef) w') : wpList P ops Q (o :: rest) a w :=
  wpList_plain hgd fun _ hK => wp_store_all ty x y ho g old cells T hx hy hg hs hi h1 fun w' k1 k2 => hK _ _ (h w' k1 k2)
theorem ret_row1 {fn : Func} {R : Ending → World → Prop} {a : Act} {p : Tmp} {ty : TypeId} (h : fn.results = #[.cell p ty]) (g : Nat) (t : TypeId) (cs : Array Value) (d : TypeDesc)
    (hp : a.tmps.getD p undef = .pointer (some ⟨g, 0, none⟩)) (hg : w.heap[g]? = some (.cells cs t (0, 0)))
    (hu : P.underlying ty = some d) (hd : (match d with | .struct _ | .array _ _ => true | _ => false) = true) (hi : (P.info? ty).map (·.size) = some cs.size) (hf : a.defers = []) (hR : R (.returned (.agg cs)) w) : bodyPost P fn R .ret a w :=
  bodyPost_ret (results_cell_row h a.tmps w g t cs (0, 0) d hp hg hu hd hi) hf hR
theorem ret_row2 {fn : Func} {R : Ending → World → Prop} {a : Act} {p s : Tmp} {ty : TypeId} (h : fn.results = #[.cell p ty, .tmp s]) (g : Nat) (t : TypeId) (cs : Array Value) (d : TypeDesc) (u : Value)
    (hp : a.tmps.getD p undef = .pointer (some ⟨g, 0, none⟩)) (hg : w.heap[g]? = some (.cells cs t (0, 0))) (hs : a.tmps.getD s undef = u)
    (hu : P.underlying ty = some d) (hd : (match d with | .struct _ | .array _ _ => true | _ => false) = true) (hi : (P.info? ty).map (·.size) = some cs.size) (hf : a.defers = []) (hR : R (.returned (.tuple #[.agg cs, u])) w) : bodyPost P fn R .ret a w := by
  refine bodyPost_ret (v := .tuple #[.agg cs, u]) ?_ hf hR
  have hp' : a.tmps[p]?.getD undef = .pointer (some ⟨g, 0, none⟩) := by simpa using hp
  have hs' : a.tmps[s]?.getD undef = u := by simpa using hs
  simp [results, h, hp', hs', asAddr, run_loadVar_row w g t ty cs (0, 0) d hg hu hd hi]
theorem ret_row3 {fn : Func} {R : Ending → World → Prop} {a : Act} {p s q : Tmp} {ty : TypeId} (h : fn.results = #[.cell p ty, .tmp s, .tmp q]) (g : Nat) (t : TypeId) (cs : Array Value) (d : TypeDesc) (u v : Value)
    (hp : a.tmps.getD p undef = .pointer (some ⟨g, 0, none⟩)) (hg : w.heap[g]? = some (.cells cs t (0, 0))) (hs : a.tmps.getD s undef = u) (hq : a.tmps.getD q undef = v)
    (hu : P.underlying ty = some d) (hd : (match d with | .struct _ | .array _ _ => true | _ => false) = true) (hi : (P.info? ty).map (·.size) = some cs.size) (hf : a.defers = []) (hR : R (.returned (.tuple #[.agg cs, u, v])) w) : bodyPost P fn R .ret a w := by
  refine bodyPost_ret (v := .tuple #[.agg cs, u, v]) ?_ hf hR
  have hp' : a.tmps[p]?.getD undef = .pointer (some ⟨g, 0, none⟩) := by simpa using hp
  have hs' : a.tmps[s]?.getD undef = u := by simpa using hs
  have hq' : a.tmps[q]?.getD undef = v := by simpa using hq
  simp [results, h, hp', hs', hq', asAddr, run_loadVar_row w g t ty cs (0, 0) d hg hu hd hi]
end
end Go.Proofs.YtihhflajkohibaaGreatDoor
