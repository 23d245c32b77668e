/- Slices of the call's own, wherever they begin in their block: what they hold, what append makes of them, and what is kept. Plain facts on worlds; no function of the program. -/
import Derived.Test.YtihhflajkohibaaGreatDoorMem
import Derived.Deep.AppendSrc
import Derived.Deep.MidRow
import Derived.Deep.Upon
import Derived.RegionTactic
import Derived.OwnWalk
namespace Go.Proofs.YtihhflajkohibaaGreatDoor
set_option linter.unusedSimpArgs false
set_option linter.unusedVariables false
set_option maxRecDepth 100000
open Go.RowKit

/-- what a call may turn: the blocks of F, and what is new; behind it F' takes F's place -/
structure Turns (F F' : List Nat) (w w' : World) : Prop where
  kept : Kept F w w'
  new : ∀ k, k ∈ F' → k ∈ F ∨ w.heap.size ≤ k
theorem Turns.refl (F : List Nat) (w : World) : Turns F F w w := ⟨Kept.refl _ _, fun _ h => .inl h⟩
theorem Turns.trans {F G H : List Nat} {a b c : World} (h : Turns F G a b) (k : Turns G H b c) : Turns F H a c :=
  ⟨⟨k.kept.os.trans h.kept.os, k.kept.tape.trans h.kept.tape, k.kept.output.trans h.kept.output, Nat.le_trans h.kept.size k.kept.size,
    fun i hi hn => (k.kept.block i (Nat.lt_of_lt_of_le hi h.kept.size) (fun hg => by
      rcases h.new i hg with h1 | h1
      · exact hn h1
      · omega)).trans (h.kept.block i hi hn)⟩,
    fun i hi => by
      rcases k.new i hi with h1 | h1
      · exact h.new i h1
      · exact .inr (Nat.le_trans h.kept.size h1)⟩
theorem Turns.cons {F F' : List Nat} {w w' : World} (h : Turns F F' w w') (p : Nat) : Turns (p :: F) (p :: F') w w' :=
  ⟨h.kept.mono (fun x hx => List.mem_cons_of_mem _ hx), fun k hk => by
    rcases List.mem_cons.1 hk with e | hk
    · exact .inl (by simp [e])
    · exact (h.new k hk).imp (fun a => List.mem_cons_of_mem _ a) id⟩
theorem Turns.mono {F F' G : List Nat} {w w' : World} (h : Turns F F' w w') (hs : ∀ k, k ∈ F → k ∈ G) : Turns G F' w w' := ⟨h.kept.mono hs, fun k hk => (h.new k hk).imp (hs k) id⟩
theorem Turns.drewN {F G : List Nat} {a b : World} (h : Turns F G a b) (n : Nat) : Turns F G a (b.drewN n) := ⟨h.kept.drewN n, h.new⟩
/-- what lies apart from F stays -/
theorem Turns.apart {F F' : List Nat} {w w' : World} (h : Turns F F' w w') {k : Nat} (hk : k < w.heap.size) (hn : k ∉ F) : k ∉ F' := fun hf => by
  rcases h.new k hf with h1 | h1
  · exact hn h1
  · omega
theorem Turns.below {F F' : List Nat} {w w' : World} (h : Turns F F' w w') {B : Nat} (hB : B ≤ w.heap.size) (hF : ∀ k, k ∈ F → B ≤ k) : Below B w w' ∧ ∀ k, k ∈ F' → B ≤ k :=
  ⟨h.kept.below hB hF, fun k hk => by
    rcases h.new k hk with h1 | h1
    · exact hF k h1
    · omega⟩
theorem Turns.of_below {w w' : World} (h : Below w.heap.size w w') (F : List Nat) : Turns F F w w' := ⟨Kept.of_below h F, fun _ h => .inl h⟩

/-- a slice of the call's own: its address, length and capacity; the block where it lies; its cells -/
structure Vec (w : World) (F : List Nat) (size : Nat) (A : Option Addr) (n c : Nat) (cs : List Value) : Prop where
  len : cs.length = n * size
  le : n ≤ c
  max : c ≤ maxLen
  place : (A = none ∧ c = 0 ∧ F = []) ∨ ∃ g off, A = some ⟨g, off, none⟩ ∧ F = [g] ∧ g < w.heap.size ∧ w.rangeAt g off cs ∧ w.there g off (c * size)

section
variable {w w' : World} {F : List Nat} {size n c : Nat} {A : Option Addr} {cs : List Value}
theorem Vec.nil (w : World) (size : Nat) : Vec w [] size none 0 0 [] := ⟨by simp, Nat.le_refl _, Nat.zero_le _, .inl ⟨rfl, rfl, rfl⟩⟩
theorem Vec.lt (h : Vec w F size A n c cs) {k : Nat} (hk : k ∈ F) : k < w.heap.size := by
  rcases h.place with ⟨_, _, rfl⟩ | ⟨g, off, _, rfl, hg, _⟩
  · cases hk
  · simp at hk; omega
theorem Vec.keep (h : Vec w F size A n c cs) (hs : w.heap.size ≤ w'.heap.size) (hb : ∀ k, k ∈ F → w'.heap[k]? = w.heap[k]?) : Vec w' F size A n c cs := by
  refine ⟨h.len, h.le, h.max, h.place.imp id ?_⟩
  rintro ⟨g, off, rfl, rfl, hg, hr, ht⟩
  have e := hb g (by simp)
  exact ⟨g, off, rfl, rfl, by omega, fun j v hj => (World.cell?_of_block (a := ⟨g, off + j, none⟩) e).trans (hr j v hj),
    fun j hj => ⟨by rw [World.cell?_of_block (a := ⟨g, off + j, none⟩) e]; exact (ht j hj).1, (World.frozen?_of_block (a := ⟨g, off + j, none⟩) e).trans (ht j hj).2⟩⟩
theorem Vec.kept {L : List Nat} (h : Vec w F size A n c cs) (hk : Kept L w w') (hL : ∀ k, k ∈ F → k ∉ L) : Vec w' F size A n c cs :=
  h.keep hk.size fun k hm => hk.block k (h.lt hm) (hL k hm)
theorem Vec.below {B : Nat} (h : Vec w F size A n c cs) (hb : Below B w w') (hB : ∀ k, k ∈ F → k < B) : Vec w' F size A n c cs :=
  h.keep hb.size fun k hm => hb.block k (hB k hm)
theorem Vec.after (h : Vec w F size A n c cs) (hb : Below w.heap.size w w') : Vec w' F size A n c cs := h.below hb fun _ hk => h.lt hk
theorem Vec.drewN (h : Vec w F size A n c cs) (k : Nat) : Vec (w.drewN k) F size A n c cs := h.keep (Nat.le_refl _) fun _ _ => rfl
theorem Vec.drew (h : Vec w F size A n c cs) : Vec w.drew F size A n c cs := h.keep (Nat.le_refl _) fun _ _ => rfl
theorem Vec.alloc (h : Vec w F size A n c cs) (o : Obj) : Vec (w.alloc o) F size A n c cs := h.keep (by simp) fun k hk => Below.heap_alloc w o k (h.lt hk)
theorem Vec.setCell (h : Vec w F size A n c cs) {p : Addr} (hp : p.block ∉ F) (u : Value) : Vec (w.setCell p u) F size A n c cs :=
  h.keep (by simp [World.setCell]) fun k hk => Below.heap_setCell w p u k (by rintro rfl; exact hp hk)
theorem Vec.one (h : Vec w F size A n c cs) {k l : Nat} (hk : k ∈ F) (hl : l ∈ F) : k = l := by
  rcases h.place with ⟨_, _, rfl⟩ | ⟨g, off, _, rfl, hg, _⟩
  · cases hk
  · simp at hk hl; omega
/-- a cell of it -/
theorem Vec.at (h : Vec w F size A n c cs) {j : Nat} {u : Value} (hj : cs[j]? = some u) : ∃ g off, A = some ⟨g, off, none⟩ ∧ F = [g] ∧ g < w.heap.size ∧ w.cell? ⟨g, off + j, none⟩ = some u := by
  have hl : j < cs.length := (List.getElem?_eq_some_iff.1 hj).1
  rcases h.place with ⟨_, rfl, _⟩ | ⟨g, off, rfl, rfl, hg, hr, _⟩
  · have := h.le
    have e := h.len
    obtain rfl : n = 0 := by omega
    simp at e; subst e; simp at hl
  · exact ⟨g, off, rfl, rfl, hg, hr j u hj⟩
/-- as a slice that is read -/
theorem Vec.cells (h : Vec w F size A n c cs) (a : Addr) (ha : A = some a) : ∀ j u, cs[j]? = some u → w.cell? (a.add j) = some u := by
  intro j u hj
  obtain ⟨g, off, rfl, _, _, hc⟩ := h.at hj
  injection ha with ha
  subst ha
  rw [Addr.add_mid]; exact hc
theorem Vec.src {P : Program} {tx e' : TypeId} (h : Vec w F size A n c cs) (hk : P.underlying tx = some (.slice e')) (h1 : ∀ u ∈ cs, u.oneCell' = true) : Src P size tx (.slice A n c) n cs w := by
  cases A with
  | none =>
    rcases h.place with ⟨_, rfl, _⟩ | ⟨g, off, e, _⟩
    · have := h.le
      obtain rfl : n = 0 := by omega
      have e := h.len
      simp at e
      subst e
      exact Src.ofNil w hk 0
    · cases e
  | some a => exact Src.ofSlice w hk a n c cs h.len (h.cells a rfl) h1
/-- without the first ones; at the end of its room it keeps its address -/
theorem Vec.dropped (h : Vec w F size A n c cs) (k : Nat) (hk : k ≤ n) (hc : k < c) (g off : Nat) (hA : A = some ⟨g, off, none⟩) : Vec w F size (some ⟨g, off + k * size, none⟩) (n - k) (c - k) (cs.drop (k * size)) := by
  have hl := h.len
  refine ⟨by rw [List.length_drop, hl, Nat.sub_mul], by have := h.le; omega, by have := h.max; omega, .inr ?_⟩
  rcases h.place with ⟨e, _⟩ | ⟨g', off', e, rfl, hg, hr, ht⟩
  · rw [e] at hA; cases hA
  · rw [e] at hA
    injection hA with hA
    injection hA with h1 h2
    subst h1; subst h2
    refine ⟨g', _, rfl, rfl, hg, fun j v hj => ?_, fun j hj => ?_⟩
    · rw [List.getElem?_drop] at hj
      rw [Nat.add_assoc]
      exact hr _ v hj
    · rw [Nat.add_assoc]
      refine ht _ ?_
      rw [Nat.sub_mul] at hj
      have := Nat.mul_le_mul_right size (Nat.le_of_lt hc)
      omega
theorem Vec.emptied (h : Vec w F size A n c cs) (k : Nat) (hk : k = n) (hc : k = c) : Vec w F size A (n - k) (c - k) (cs.drop (k * size)) := by
  subst hk
  rw [List.drop_of_length_le (by rw [h.len]; exact Nat.le_refl _)]
  refine ⟨by simp, by omega, by omega, h.place.imp (fun ⟨a, _, b⟩ => ⟨a, by omega, b⟩) ?_⟩
  rintro ⟨g, off, rfl, rfl, hg, _, _⟩
  exact ⟨g, off, rfl, rfl, hg, fun j v hj => by simp at hj, fun j hj => by rw [← hc] at hj; simp at hj⟩
end

theorem Vec.of_own {w : World} {base : Nat} {e : TypeId} {size n : Nat} {v : Value} {xs : List Value} (h : w.ownsRow base e size v n xs) :
    ∃ F A c, v = .slice A n c ∧ Vec w F size A n c xs ∧ ∀ k, k ∈ F → base ≤ k := by
  rcases h.2 with ⟨rfl, rfl⟩ | ⟨g, cap, cur, rfl, hb, hh, hnc, hm, hs, hx⟩
  · have : xs = [] := List.eq_nil_of_length_eq_zero (by simpa using h.1)
    subst this
    exact ⟨[], none, 0, rfl, Vec.nil _ _, by simp⟩
  · refine ⟨[g], _, cap, rfl, ⟨h.1, hnc, hm, .inr ⟨g, 0, rfl, rfl, lt_of_block hh, fun j v hj => ?_, fun j hj => ?_⟩⟩, by simpa using hb⟩
    · rw [Nat.zero_add, cell_of_block hh]
      subst hx
      rw [List.getElem?_take] at hj
      by_cases c : j < n * size
      · rw [if_pos c] at hj; simpa using hj
      · rw [if_neg c] at hj; cases hj
    · rw [Nat.zero_add, cell_of_block hh]
      exact ⟨by rw [Array.getElem?_eq_getElem (by omega)]; rfl, frozen_of_block hh j⟩
/-- a new row of so many cells, all of them there -/
theorem Vec.of_new {w : World} {e : TypeId} {g : Nat} (cur : Array Value) (size n c : Nat) (hn : n ≤ c) (hc : c ≤ maxLen) (hs : cur.size = c * size) (h : w.heap[g]? = some (.cells cur e (0, 0))) :
    Vec w [g] size (some ⟨g, 0, none⟩) n c (cur.toList.take (n * size)) := by
  refine ⟨by rw [List.length_take, Array.length_toList, hs]; have := Nat.mul_le_mul_right size hn; omega, hn, hc, .inr ⟨g, 0, rfl, rfl, lt_of_block h, fun j v hj => ?_, fun j hj => ?_⟩⟩
  · rw [Nat.zero_add, cell_of_block h]
    rw [List.getElem?_take] at hj
    by_cases c : j < n * size
    · rw [if_pos c] at hj; simpa using hj
    · rw [if_neg c] at hj; cases hj
  · rw [Nat.zero_add, cell_of_block h]
    exact ⟨by rw [Array.getElem?_eq_getElem (by omega)]; rfl, frozen_of_block h j⟩

/-- what append hands back and leaves -/
structure Appended (w : World) (F : List Nat) (size n : Nat) (cs : List Value) (v : Value) (w' : World) : Prop where
  all : ∃ F' A c, v = .slice A n c ∧ Vec w' F' size A n c cs ∧ Turns F F' w w'

section
variable {P : Program} (w : World)
theorem setCells_kept (g : Nat) (vs : List Value) (o : Nat) (w : World) : Kept [g] w (w.setCells g o vs) := by
  induction vs generalizing o w with
  | nil => exact Kept.refl _ _
  | cons v r ih => exact ((Kept.refl [g] w).setCell (p := ⟨g, o, none⟩) (.inl (by simp)) v).trans (ih (o + 1) _)
theorem run_append_vec (t tx ty e : TypeId) (i : TypeInfo) (z : Value) (size bytes : Nat) (ht : P.underlying t = some (.slice e)) (hi : P.info? e = some i) (hz : i.zero = some z)
    (hsize : i.size = size) (hby : i.bytes = bytes) (hzs : z.cells.size = size)
    (F : List Nat) (A : Option Addr) (n c : Nat) (xs : List Value) (hv : Vec w F size A n c xs) (x : Value) (m : Nat) (news : List Value) (hs : Src P size tx x m news w)
    (h63 : n + m ≤ maxLen) (hbytes : (n + m) * bytes ≤ 140737488355328) :
    ∃ v' w', (Builtin.append_ #[t, tx] ty #[.slice A n c, x]).run P w = .ok v' w' ∧ Appended w F size (n + m) (xs ++ news) v' w' := by
  subst hsize
  subst hby
  have hle := hv.le
  have hsmall : n + m ≤ 9223372036854775807 := by simp only [maxLen] at h63; omega
  have hxl := hv.len
  have hnl := hs.newsLen
  have hlen : (xs ++ news).length = (n + m) * i.size := by rw [List.length_append, hxl, hnl, Nat.add_mul]
  by_cases hroom : n + m ≤ c
  · rcases hv.place with ⟨rfl, rfl, rfl⟩ | ⟨g, off, rfl, rfl, hg, hr, hth⟩
    · obtain rfl : n = 0 := by omega
      obtain rfl : m = 0 := by omega
      have hn0 : news = [] := List.eq_nil_of_length_eq_zero (by simpa using hnl)
      have hx0 : xs = [] := List.eq_nil_of_length_eq_zero (by simpa using hxl)
      subst hn0; subst hx0
      exact ⟨_, _, run_append_nothing w t tx ty e i ht hi none 0 0 (Nat.le_refl _) x hs, ⟨[], none, 0, rfl, Vec.nil _ _, Turns.refl _ _⟩⟩
    · have hbig : n * i.size + news.length ≤ c * i.size := by
        rw [hnl, ← Nat.add_mul]; exact Nat.mul_le_mul_right _ hroom
      have hth' : w.there g (off + n * i.size) news.length := fun j hj => by
        rw [Nat.add_assoc]; exact hth _ (by omega)
      have hrun := run_append_room_src (P := P) w t tx ty e i ht hi g off n c x m news hs hroom (fun j hj => (hth' j hj).1) (fun j hj => (hth' j hj).2)
      refine ⟨_, _, hrun, ⟨[g], _, c, rfl, ⟨hlen, hroom, hv.max, .inr ⟨g, off, rfl, rfl, ?_, ?_, World.there_setCells hth _ _ _⟩⟩, ⟨setCells_kept g _ _ w, fun k hk => .inl hk⟩⟩⟩
      · exact Nat.lt_of_lt_of_le hg (setCells_kept g _ _ w).size
      · intro j v hj
        by_cases hjx : j < xs.length
        · rw [List.getElem?_append_left hjx] at hj
          exact World.rangeAt_setCells_apart hr g _ _ (.inr (.inl (by omega))) j v hj
        · rw [List.getElem?_append_right (by omega)] at hj
          have := World.rangeAt_setCells_same w g (off + n * i.size) news hth' (j - xs.length) v hj
          rwa [show off + n * i.size + (j - xs.length) = off + j from by omega] at this
  · have hold : (Builtin.firstCells i.size n (.slice A n c)).run P w.drew = .ok xs.toArray w.drew := by
      cases A with
      | none =>
        rcases hv.place with ⟨_, rfl, _⟩ | ⟨g, off, e, _⟩
        · obtain rfl : n = 0 := by omega
          have hx0 : xs = [] := List.eq_nil_of_length_eq_zero (by simpa using hxl)
          subst hx0
          exact run_firstCells_none w.drew i.size 0 0 0
        · cases e
      | some a => exact run_firstCells_some w.drew i.size n a n c xs hxl (hv.drew.cells a rfl)
    have hrun := run_append_grow_src (P := P) w t tx ty e i z ht hi hz A n c xs hold x m news hs (by omega) (by omega) (growslice_fits (by omega) hbytes)
    have hge := grownCap_ge w (n + m) c e
    have hcm : grownCap w (n + m) c e ≤ maxLen := grownCap_le_maxLen w (n + m) c e h63
    refine ⟨_, _, hrun, ⟨[w.heap.size], _, _, rfl, ?_, ⟨⟨rfl, rfl, rfl, by simp, fun k hk _ => Below.heap_alloc w.drew _ k hk⟩, fun k hk => .inr (by simp at hk; omega)⟩⟩⟩
    have hv2 := Vec.of_new (w := w.drew.alloc (.cells ((xs ++ news).toArray ++ Builtin.zeroCells z.cells (grownCap w (n + m) c e - (n + m))) e)) (e := e) (g := w.heap.size) ((xs ++ news).toArray ++ Builtin.zeroCells z.cells (grownCap w (n + m) c e - (n + m))) i.size (n + m) (grownCap w (n + m) c e) hge hcm
      (by rw [Array.size_append, List.size_toArray, size_zeroCells, hzs, hlen, ← Nat.add_mul]; congr 1; omega) (heap_alloc_new w.drew _)
    have e1 : ((xs ++ news).toArray ++ Builtin.zeroCells z.cells (grownCap w (n + m) c e - (n + m))).toList.take ((n + m) * i.size) = xs ++ news := by
      rw [Array.toList_append, ← hlen]; exact List.take_left
    rw [e1] at hv2
    exact hv2
theorem wp_append_vec {o : Oper} {a : Act} {K : Act → World → Prop} {Q : Exit → Act → World → Prop} (s x : Operand) (t tx : TypeId)
    (ho : o.op = .call { callee := .builtin .append, args := #[s, x], argTypes := #[t, tx] })
    (e : TypeId) (i : TypeInfo) (z : Value) (size bytes : Nat) (ht : P.underlying t = some (.slice e)) (hi : P.info? e = some i) (hz : i.zero = some z)
    (hsize : i.size = size) (hby : i.bytes = bytes) (hzs : z.cells.size = size)
    (F : List Nat) (A : Option Addr) (n c : Nat) (xs : List Value) (y : Value) (m : Nat) (news : List Value) (hsv : a.eval s = .slice A n c) (hx : a.eval x = y) (hv : Vec w F size A n c xs) (hs : Src P size tx y m news w)
    (h63 : n + m ≤ maxLen) (hbytes : (n + m) * bytes ≤ 140737488355328)
    (h : ∀ v' w', Appended w F size (n + m) (xs ++ news) v' w' → K (a.put o.dst v') w') : o.wp P a w K Q := by
  obtain ⟨v', w', hr, h2⟩ := run_append_vec (P := P) w t tx o.type e i z size bytes ht hi hz hsize hby hzs F A n c xs hv y m news hs h63 hbytes
  unfold Oper.wp execOp
  simp only [ho, resolve, invoke, builtin, Sem.run_bind, Sem.run_pure, Result.andThen_ok, List.map_toArray, List.map_cons, List.map_nil, hsv, hx, hr]
  exact h v' w' h2
theorem wpList_append_vec {ops : Array Oper} {rest : List Oper} {o : Oper} {a : Act} {Q : Exit → Act → World → Prop} (hgd : o.guard = none) (s x : Operand) (t tx : TypeId)
    (ho : o.op = .call { callee := .builtin .append, args := #[s, x], argTypes := #[t, tx] })
    (e : TypeId) (i : TypeInfo) (z : Value) (size bytes : Nat) (ht : P.underlying t = some (.slice e)) (hi : P.info? e = some i) (hz : i.zero = some z)
    (hsize : i.size = size) (hby : i.bytes = bytes) (hzs : z.cells.size = size)
    (F : List Nat) (A : Option Addr) (n c : Nat) (xs : List Value) (y : Value) (m : Nat) (news : List Value) (hsv : a.eval s = .slice A n c) (hx : a.eval x = y) (hv : Vec w F size A n c xs) (hs : Src P size tx y m news w)
    (h63 : n + m ≤ maxLen) (hbytes : (n + m) * bytes ≤ 140737488355328)
    (h : ∀ v' w', Appended w F size (n + m) (xs ++ news) v' w' → wpList P ops Q rest (a.put o.dst v') w') : wpList P ops Q (o :: rest) a w :=
  wpList_plain hgd fun _ hK => wp_append_vec w s x t tx ho e i z size bytes ht hi hz hsize hby hzs F A n c xs y m news hsv hx hv hs h63 hbytes fun v' w' h2 => hK _ _ (h v' w' h2)
theorem step_append_vec {ops : Array Oper} {o : Oper} {a : Act} {K : Act → World → Prop} {Q : Exit → Act → World → Prop} {E : Prop} (hw : Region.wanted o (yielded ops a.tmps) = true) (s x : Operand) (t tx : TypeId)
    (ho : o.op = .call { callee := .builtin .append, args := #[s, x], argTypes := #[t, tx] })
    (e : TypeId) (i : TypeInfo) (z : Value) (size bytes : Nat) (ht : P.underlying t = some (.slice e)) (hi : P.info? e = some i) (hz : i.zero = some z)
    (hsize : i.size = size) (hby : i.bytes = bytes) (hzs : z.cells.size = size)
    (F : List Nat) (A : Option Addr) (n c : Nat) (xs : List Value) (y : Value) (m : Nat) (news : List Value) (hsv : a.eval s = .slice A n c) (hx : a.eval x = y) (hv : Vec w F size A n c xs) (hs : Src P size tx y m news w)
    (h63 : n + m ≤ maxLen) (hbytes : (n + m) * bytes ≤ 140737488355328)
    (h : ∀ v' w', Appended w F size (n + m) (xs ++ news) v' w' → K (a.put o.dst v') w') :
    if Region.wanted o (yielded ops a.tmps) = true then Oper.wp P o a w K Q else E := by
  rw [if_pos hw]
  exact wp_append_vec w s x t tx ho e i z size bytes ht hi hz hsize hby hzs F A n c xs y m news hsv hx hv hs h63 hbytes h
/-- what was laid in a new block is such a source -/
theorem src_new {tx e' : TypeId} {t : TypeId} (hk : P.underlying tx = some (.slice e')) (cs : List Value) (size m c : Nat) (h1 : cs.length = m * size) (h2 : ∀ u ∈ cs, u.oneCell' = true) (g : Nat) (h : w.heap[g]? = some (.cells cs.toArray t (0, 0))) :
    Src P size tx (.slice (some ⟨g, 0, none⟩) m c) m cs w :=
  Src.ofSlice w hk _ m c cs h1 (fun j u hj => by rw [Addr.add_mid, Nat.zero_add, cell_of_block h]; simpa using hj) h2
end
end Go.Proofs.YtihhflajkohibaaGreatDoor
