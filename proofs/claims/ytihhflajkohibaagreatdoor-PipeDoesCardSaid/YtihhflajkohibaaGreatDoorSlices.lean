/- Slices that are read: what cells they hold, and where they lie; append onto a row of the call's own from such a slice. Plain facts on worlds; no function of the program. -/
import Derived.Test.YtihhflajkohibaaGreatDoorMem
import Derived.Maps.AppendAt
import Derived.RegionTactic
import Derived.OwnWalk
namespace Go.Proofs.YtihhflajkohibaaGreatDoor
set_option linter.unusedSimpArgs false
set_option linter.unusedVariables false
set_option maxRecDepth 100000
open Go.RowKit

/-- the slice value of n elements, each of so many cells, reads as the cells cs, and lies in a block from lo on and below hi -/
def Sl (w : World) (lo hi size : Nat) (A : Option Addr) (n : Nat) (cs : List Value) : Prop :=
  cs.length = n * size ∧ (0 < n → ∃ bl off, A = some ⟨bl, off, none⟩ ∧ lo ≤ bl ∧ bl < hi ∧ ∀ j u, cs[j]? = some u → w.cell? ⟨bl, off + j, none⟩ = some u)

section
variable {w w' : World} {lo hi size n : Nat} {A : Option Addr} {cs : List Value}
theorem Sl.nil (w : World) (lo hi size : Nat) (A : Option Addr) : Sl w lo hi size A 0 [] := ⟨by simp, fun h => absurd h (by omega)⟩
theorem Sl.at1 (h : Sl w lo hi 1 A n cs) {k : Nat} (hk : k < n) : ∃ bl off, A = some ⟨bl, off, none⟩ ∧ lo ≤ bl ∧ bl < hi ∧ w.cell? ⟨bl, off + k, none⟩ = cs[k]? := by
  obtain ⟨bl, off, e, h1, h2, hc⟩ := h.2 (by omega)
  have hl : k < cs.length := by have := h.1; omega
  refine ⟨bl, off, e, h1, h2, ?_⟩
  rw [List.getElem?_eq_getElem hl]
  exact hc k _ (List.getElem?_eq_getElem hl)
theorem Sl.keep (h : Sl w lo hi size A n cs) (hk : ∀ bl, lo ≤ bl → bl < hi → w'.heap[bl]? = w.heap[bl]?) : Sl w' lo hi size A n cs :=
  ⟨h.1, fun hn => by
    obtain ⟨bl, off, e, h1, h2, hc⟩ := h.2 hn
    exact ⟨bl, off, e, h1, h2, fun j u hu => (World.cell?_of_block (w := w) (hk bl h1 h2)).trans (hc j u hu)⟩⟩
theorem Sl.below {B : Nat} (h : Sl w lo hi size A n cs) (hb : Below B w w') (hB : hi ≤ B) : Sl w' lo hi size A n cs := h.keep fun bl _ h2 => hb.block bl (by omega)
theorem Sl.kept {L : List Nat} (h : Sl w lo hi size A n cs) (hk : Kept L w w') (hhi : hi ≤ w.heap.size) (hL : ∀ x, x ∈ L → x < lo ∨ hi ≤ x) : Sl w' lo hi size A n cs :=
  h.keep fun bl h1 h2 => hk.block bl (by omega) fun hm => by have := hL bl hm; omega
theorem Sl.wide {lo' hi' : Nat} (h : Sl w lo hi size A n cs) (h1 : lo' ≤ lo) (h2 : hi ≤ hi') : Sl w lo' hi' size A n cs :=
  ⟨h.1, fun hn => by
    obtain ⟨bl, off, e, h3, h4, hc⟩ := h.2 hn
    exact ⟨bl, off, e, by omega, by omega, hc⟩⟩
theorem Sl.drewN (h : Sl w lo hi size A n cs) (k : Nat) : Sl (w.drewN k) lo hi size A n cs := h
theorem Sl.alloc (h : Sl w lo hi size A n cs) (hhi : hi ≤ w.heap.size) (o : Obj) : Sl (w.alloc o) lo hi size A n cs := h.keep fun bl _ h2 => Below.heap_alloc w o bl (by omega)
theorem Sl.take (h : Sl w lo hi 1 A n cs) {k : Nat} (hk : k ≤ n) : Sl w lo hi 1 A k (cs.take k) := by
  refine ⟨by rw [List.length_take]; have := h.1; omega, fun hn => ?_⟩
  obtain ⟨bl, off, e, h1, h2, hc⟩ := h.2 (by omega)
  refine ⟨bl, off, e, h1, h2, fun j u hu => hc j u ?_⟩
  rw [List.getElem?_take] at hu
  by_cases hj : j < k
  · rw [if_pos hj] at hu; exact hu
  · rw [if_neg hj] at hu; cases hu
theorem Sl.drop_at {bl off : Nat} (h : Sl w lo hi 1 (some ⟨bl, off, none⟩) n cs) (k : Nat) (hk : k ≤ n) : Sl w lo hi 1 (some ⟨bl, off + k, none⟩) (n - k) (cs.drop k) := by
  refine ⟨by rw [List.length_drop, h.1]; omega, fun hn => ?_⟩
  obtain ⟨bl', off', e, h1, h2, hc⟩ := h.2 (by omega)
  injection e with e
  injection e with e1 e2
  subst e1; subst e2
  refine ⟨_, _, rfl, h1, h2, fun j u hu => ?_⟩
  rw [List.getElem?_drop] at hu
  rw [Nat.add_assoc]
  exact hc _ u hu
theorem Sl.drop_end (h : Sl w lo hi 1 A n cs) (k : Nat) (hk : n ≤ k) (B : Option Addr) : Sl w lo hi 1 B (n - k) (cs.drop k) := by
  rw [show n - k = 0 from by omega, List.drop_of_length_le (by have := h.1; omega)]
  exact Sl.nil _ _ _ _ _
theorem Sl.setCell (h : Sl w lo hi size A n cs) {p : Addr} (hp : p.block < lo ∨ hi ≤ p.block) (u : Value) : Sl (w.setCell p u) lo hi size A n cs :=
  h.keep fun bl h1 h2 => Below.heap_setCell w p u bl (by omega)
theorem size_setCell (w : World) (p : Addr) (u : Value) : (w.setCell p u).heap.size = w.heap.size := by simp [World.setCell]
/-- a row of the call's own is such a slice -/
theorem Sl.of_own {base : Nat} {e : TypeId} {v : Value} {xs : List Value} (h : w.ownsRow base e size v n xs) : ∃ A c, v = .slice A n c ∧ n ≤ c ∧ Sl w base w.heap.size size A n xs := by
  rcases h.2 with ⟨rfl, rfl⟩ | ⟨g, cap, cur, rfl, hb, hh, hnc, _, _, hx⟩
  · have : xs = [] := List.eq_nil_of_length_eq_zero (by simpa using h.1)
    subst this
    exact ⟨none, 0, rfl, Nat.le_refl _, Sl.nil _ _ _ _ _⟩
  · refine ⟨_, cap, rfl, hnc, h.1, fun _ => ⟨g, 0, rfl, hb, lt_of_block hh, fun j u hu => ?_⟩⟩
    rw [Nat.zero_add, cell_of_block hh]
    subst hx
    rw [List.getElem?_take] at hu
    by_cases hj : j < n * size
    · rw [if_pos hj] at hu; simpa using hu
    · rw [if_neg hj] at hu; cases hu
end

theorem Sl.of_lit {w : World} {base : Nat} {e : TypeId} {size n g cap : Nat} {xs : List Value} (h : w.ownsRow base e size (.slice (some ⟨g, 0, none⟩) n cap) n xs) : Sl w base w.heap.size size (some ⟨g, 0, none⟩) n xs := by
  obtain ⟨A, c, hv, _, hs⟩ := Sl.of_own h
  injection hv with h1
  subst h1
  exact hs
theorem own_cap {w : World} {base : Nat} {e : TypeId} {size n c : Nat} {A : Option Addr} {xs : List Value} (h : w.ownsRow base e size (.slice A n c) n xs) : n ≤ c ∧ c ≤ maxLen := by
  rcases h.2 with ⟨h1, h2⟩ | ⟨g, cap, cur, h1, _, _, h2, h3, _⟩
  · injection h1 with _ h4 h5; subst h4; subst h5; exact ⟨Nat.le_refl _, Nat.zero_le _⟩
  · injection h1 with _ _ h5; subst h5; exact ⟨h2, h3⟩
theorem Sl.at2 {w : World} {lo hi n : Nat} {A : Option Addr} {cs : List Value} (h : Sl w lo hi 2 A n cs) {k : Nat} (hk : k < n) :
    ∃ bl off, A = some ⟨bl, off, none⟩ ∧ lo ≤ bl ∧ bl < hi ∧ w.cell? ⟨bl, off + k * 2, none⟩ = cs[k * 2]? ∧ w.cell? ⟨bl, off + k * 2 + 1, none⟩ = cs[k * 2 + 1]? := by
  obtain ⟨bl, off, e, h1, h2, hc⟩ := h.2 (by omega)
  have hl : k * 2 + 1 < cs.length := by have := h.1; omega
  refine ⟨bl, off, e, h1, h2, ?_, ?_⟩
  · rw [List.getElem?_eq_getElem (by omega)]
    exact hc _ _ (List.getElem?_eq_getElem (by omega))
  · rw [List.getElem?_eq_getElem hl, Nat.add_assoc]
    exact hc _ _ (List.getElem?_eq_getElem hl)
theorem own_same {w w' : World} {base : Nat} {e : TypeId} {size n : Nat} {v : Value} {xs : List Value} (h : w.ownsRow base e size v n xs) (hb : ∀ g, v.ownBlock = some g → w'.heap[g]? = w.heap[g]?) : w'.ownsRow base e size v n xs := by
  refine ⟨h.1, ?_⟩
  rcases h.2 with h1 | ⟨g, cap, cur, rfl, h1, h2, h3⟩
  · exact .inl h1
  · exact .inr ⟨g, cap, cur, rfl, h1, (hb g rfl).trans h2, h3⟩
theorem own_kept {w w' : World} {base : Nat} {e : TypeId} {size n : Nat} {v : Value} {xs : List Value} {L : List Nat} (h : w.ownsRow base e size v n xs) (hk : Kept L w w') (hL : ∀ x, x ∈ L → x < base) : w'.ownsRow base e size v n xs :=
  own_same h fun g hg => by
    obtain ⟨h1, h2⟩ := h.lt g hg
    exact hk.block g h2 fun hm => by have := hL g hm; omega
/-- two rows of the call's own, apart -/
def TwoRows {α : Type} (e : TypeId) (mk : α → Value) (w : World) (B : Nat) (u v : Value) (xs ys : List α) : Prop :=
  w.ownsRow B e 1 u xs.length (xs.map mk) ∧ w.ownsRow B e 1 v ys.length (ys.map mk) ∧ ∀ g, u.ownBlock = some g → v.ownBlock ≠ some g
section
variable {α : Type} {e : TypeId} {mk : α → Value} {w w' : World} {B : Nat} {u v : Value} {xs ys : List α}
theorem TwoRows.symm (h : TwoRows e mk w B u v xs ys) : TwoRows e mk w B v u ys xs := ⟨h.2.1, h.1, fun g hg hu => h.2.2 g hu hg⟩
theorem TwoRows.kept {L : List Nat} (h : TwoRows e mk w B u v xs ys) (hk : Kept L w w') (hL : ∀ x, x ∈ L → x < B) : TwoRows e mk w' B u v xs ys :=
  ⟨own_kept h.1 hk hL, own_kept h.2.1 hk hL, h.2.2⟩
theorem TwoRows.push {v' : Value} {o : Obj} (h : TwoRows e mk w B u v xs ys) (x : α) (hown : w'.ownsRow B e 1 v' (xs.length + 1) (xs.map mk ++ [mk x])) (hg : (w.alloc o).grownBy w' u.ownBlock)
    (hat : v'.ownBlock = u.ownBlock ∨ v'.ownBlock = some (w.alloc o).heap.size) : TwoRows e mk w' B v' v (xs ++ [x]) ys := by
  refine ⟨by simpa using hown, ?_, ?_⟩
  · refine own_same h.2.1 fun g hvg => ?_
    have hlt := (h.2.1.lt g hvg).2
    rw [hg.block g (by simp; omega) (fun hu => h.2.2 g hu.symm hvg), Below.heap_alloc w o g hlt]
  · intro g hg' hvg
    rcases hat with e1 | e1
    · exact h.2.2 g (by rw [← e1]; exact hg') hvg
    · rw [e1] at hg'
      have := (h.2.1.lt g hvg).2
      simp at hg'
      omega
end
theorem Kept.grown {w w' : World} {o : Obj} {row : Option Nat} {B : Nat} (hg : (w.alloc o).grownBy w' row) (hr : ∀ k, row = some k → B ≤ k) (hB : B ≤ w.heap.size) : Below B w w' :=
  ((Below.refl _ _).alloc hB _).grown hg (by simp; omega) hr
theorem own_empty (w : World) (base : Nat) (e : TypeId) (size : Nat) (hb : base ≤ w.heap.size) : (w.alloc (.cells #[] e)).ownsRow base e size (.slice (some ⟨w.heap.size, 0, none⟩) 0 0) 0 [] :=
  ⟨by simp, .inr ⟨w.heap.size, 0, #[], rfl, hb, heap_alloc_new w _, Nat.le_refl _, Nat.zero_le _, by simp, by simp⟩⟩
theorem bcell {W w1 : World} {B : Nat} (hb : Below B W w1) : (∀ b o, b < B → w1.cell? ⟨b, o, none⟩ = W.cell? ⟨b, o, none⟩) ∧ (∀ b o, b < B → w1.frozen? ⟨b, o, none⟩ = W.frozen? ⟨b, o, none⟩) :=
  ⟨fun b o h => hb.cell (p := ⟨b, o, none⟩) h, fun b o h => hb.frozen (p := ⟨b, o, none⟩) h⟩

section
variable {P : Program} (w : World)
theorem run_append_of_nil (base : Nat) (t ty e : TypeId) (i : TypeInfo) (size : Nat) (ht : P.underlying t = some (.slice e)) (hi : P.info? e = some i)
    (v : Value) (n : Nat) (xs : List Value) (hown : w.ownsRow base e size v n xs) (c : Nat) : (Builtin.append_ #[t, t] ty #[v, .slice none 0 c]).run P w = .ok v w := by
  rcases hown.2 with ⟨rfl, rfl⟩ | ⟨g, cap, cur, rfl, _, _, hnc, _⟩
  · simp [Builtin.append_, run_underlying ht, sizeOf, typeInfo, hi, Builtin.lenOf, Builtin.firstCells]
  · simp [Builtin.append_, run_underlying ht, sizeOf, typeInfo, hi, Builtin.lenOf, Builtin.firstCells, hnc, storeCells]
theorem run_append_any (base : Nat) (t ty e : TypeId) (i : TypeInfo) (z : Value) (size bytes : Nat) (ht : P.underlying t = some (.slice e)) (hi : P.info? e = some i) (hz : i.zero = some z)
    (hsize : i.size = size) (hby : i.bytes = bytes) (hzs : z.cells.size = size) (hsz : 0 < size)
    (v : Value) (n : Nat) (xs : List Value) (hown : w.ownsRow base e size v n xs)
    (lo h0 : Nat) (A : Option Addr) (m c : Nat) (news : List Value) (hr : Sl w lo h0 size A m news) (h1 : ∀ u ∈ news, u.oneCell' = true)
    (h63 : n + m ≤ maxLen) (hbytes : (n + m) * bytes ≤ 140737488355328) (hbase : base ≤ w.heap.size) :
    ∃ v' w', (Builtin.append_ #[t, t] ty #[v, .slice A m c]).run P w = .ok v' w' ∧ w'.ownsRow base e size v' (n + m) (xs ++ news) ∧ w.grownBy w' v.ownBlock ∧
      (v'.ownBlock = v.ownBlock ∨ v'.ownBlock = some w.heap.size) := by
  rcases A with _ | ad
  · have hm : m = 0 := by
      rcases Nat.eq_zero_or_pos m with h0 | h0
      · exact h0
      · obtain ⟨_, _, h, _⟩ := hr.2 h0
        cases h
    subst hm
    have hn : news = [] := List.eq_nil_of_length_eq_zero (by simpa using hr.1)
    subst hn
    exact ⟨v, w, run_append_of_nil w base t ty e i size ht hi v n xs hown c, by simpa using hown, World.grownBy.refl w _, .inl rfl⟩
  · have hcells : ∀ j u, news[j]? = some u → w.cell? (ad.add j) = some u := by
      intro j u hu
      rcases Nat.eq_zero_or_pos m with h0 | h0
      · subst h0
        have hn : news = [] := List.eq_nil_of_length_eq_zero (by simpa using hr.1)
        subst hn
        simp at hu
      · obtain ⟨bl, off, h, _, _, hc⟩ := hr.2 h0
        injection h with h
        subst h
        have := hc j u hu
        rw [Go.WideShapes.add_plain]; exact this
    obtain ⟨v', w', hrun, h2, h3, _, h5⟩ := run_append_own_at (P := P) w base t ty e i z size bytes ht hi hz hsize hby hzs hsz v n xs hown ad m c news hr.1 hcells h1 h63 hbytes hbase
    exact ⟨v', w', hrun, h2, h3, h5⟩
theorem wp_append_any {o : Oper} {a : Act} {K : Act → World → Prop} {Q : Exit → Act → World → Prop} (s x : Operand) (t : TypeId)
    (ho : o.op = .call { callee := .builtin .append, args := #[s, x], argTypes := #[t, t] })
    (base : Nat) (e : TypeId) (i : TypeInfo) (z : Value) (size bytes : Nat) (ht : P.underlying t = some (.slice e)) (hi : P.info? e = some i) (hz : i.zero = some z)
    (hsize : i.size = size) (hby : i.bytes = bytes) (hzs : z.cells.size = size) (hsz : 0 < size)
    (v : Value) (n : Nat) (xs : List Value) (hs : a.eval s = v) (hown : w.ownsRow base e size v n xs)
    (lo h0 : Nat) (A : Option Addr) (m c : Nat) (news : List Value) (hx : a.eval x = .slice A m c) (hr : Sl w lo h0 size A m news) (h1 : ∀ u ∈ news, u.oneCell' = true)
    (h63 : n + m ≤ maxLen) (hbytes : (n + m) * bytes ≤ 140737488355328) (hbase : base ≤ w.heap.size)
    (h : ∀ v' w', w'.ownsRow base e size v' (n + m) (xs ++ news) → w.grownBy w' v.ownBlock → (v'.ownBlock = v.ownBlock ∨ v'.ownBlock = some w.heap.size) → K (a.put o.dst v') w') : o.wp P a w K Q := by
  obtain ⟨v', w', hrun, h2, h3, h4⟩ := run_append_any (P := P) w base t o.type e i z size bytes ht hi hz hsize hby hzs hsz v n xs hown lo h0 A m c news hr h1 h63 hbytes hbase
  unfold Oper.wp execOp
  simp only [ho, resolve, invoke, builtin, Sem.run_bind, Sem.run_pure, Result.andThen_ok, List.map_toArray, List.map_cons, List.map_nil, hs, hx, hrun]
  exact h v' w' h2 h3 h4
theorem wpList_append_any {ops : Array Oper} {rest : List Oper} {o : Oper} {a : Act} {Q : Exit → Act → World → Prop} (hgd : o.guard = none) (s x : Operand) (t : TypeId)
    (ho : o.op = .call { callee := .builtin .append, args := #[s, x], argTypes := #[t, t] })
    (base : Nat) (e : TypeId) (i : TypeInfo) (z : Value) (size bytes : Nat) (ht : P.underlying t = some (.slice e)) (hi : P.info? e = some i) (hz : i.zero = some z)
    (hsize : i.size = size) (hby : i.bytes = bytes) (hzs : z.cells.size = size) (hsz : 0 < size)
    (v : Value) (n : Nat) (xs : List Value) (hs : a.eval s = v) (hown : w.ownsRow base e size v n xs)
    (lo h0 : Nat) (A : Option Addr) (m c : Nat) (news : List Value) (hx : a.eval x = .slice A m c) (hr : Sl w lo h0 size A m news) (h1 : ∀ u ∈ news, u.oneCell' = true)
    (h63 : n + m ≤ maxLen) (hbytes : (n + m) * bytes ≤ 140737488355328) (hbase : base ≤ w.heap.size)
    (h : ∀ v' w', w'.ownsRow base e size v' (n + m) (xs ++ news) → w.grownBy w' v.ownBlock → (v'.ownBlock = v.ownBlock ∨ v'.ownBlock = some w.heap.size) → wpList P ops Q rest (a.put o.dst v') w') : wpList P ops Q (o :: rest) a w :=
  wpList_plain hgd fun _ hK => wp_append_any w s x t ho base e i z size bytes ht hi hz hsize hby hzs hsz v n xs hs hown lo h0 A m c news hx hr h1 h63 hbytes hbase fun v' w' h2 h3 h4 => hK _ _ (h v' w' h2 h3 h4)
theorem step_append_any {ops : Array Oper} {o : Oper} {a : Act} {K : Act → World → Prop} {Q : Exit → Act → World → Prop} {E : Prop} (hgd : o.guard = none) (s x : Operand) (t : TypeId)
    (ho : o.op = .call { callee := .builtin .append, args := #[s, x], argTypes := #[t, t] })
    (base : Nat) (e : TypeId) (i : TypeInfo) (z : Value) (size bytes : Nat) (ht : P.underlying t = some (.slice e)) (hi : P.info? e = some i) (hz : i.zero = some z)
    (hsize : i.size = size) (hby : i.bytes = bytes) (hzs : z.cells.size = size) (hsz : 0 < size)
    (v : Value) (n : Nat) (xs : List Value) (hs : a.eval s = v) (hown : w.ownsRow base e size v n xs)
    (lo h0 : Nat) (A : Option Addr) (m c : Nat) (news : List Value) (hx : a.eval x = .slice A m c) (hr : Sl w lo h0 size A m news) (h1 : ∀ u ∈ news, u.oneCell' = true)
    (h63 : n + m ≤ maxLen) (hbytes : (n + m) * bytes ≤ 140737488355328) (hbase : base ≤ w.heap.size)
    (h : ∀ v' w', w'.ownsRow base e size v' (n + m) (xs ++ news) → w.grownBy w' v.ownBlock → (v'.ownBlock = v.ownBlock ∨ v'.ownBlock = some w.heap.size) → K (a.put o.dst v') w') :
    if Region.wanted o (yielded ops a.tmps) = true then Oper.wp P o a w K Q else E := by
  have hw : Region.wanted o (yielded ops a.tmps) = true := by simp [Region.wanted, hgd]
  rw [if_pos hw]
  exact wp_append_any w s x t ho base e i z size bytes ht hi hz hsize hby hzs hsz v n xs hs hown lo h0 A m c news hx hr h1 h63 hbytes hbase h
end
end Go.Proofs.YtihhflajkohibaaGreatDoor
