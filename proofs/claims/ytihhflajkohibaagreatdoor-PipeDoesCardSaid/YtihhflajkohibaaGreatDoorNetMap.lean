/- Layer 8: a net in memory: its struct, its map, its rings. Conditions: as stated. -/
import Derived.Test.YtihhflajkohibaaGreatDoorNetPlain
import Derived.Test.YtihhflajkohibaaGreatDoorRows
import Derived.Test.YtihhflajkohibaaGreatDoorRingS
import Derived.Test.YtihhflajkohibaaGreatDoorWhole
import Derived.Maps.Keyed
import Derived.DeepKeys4
import Derived.OpenShut
import Derived.ProofKit
namespace Go.Proofs.YtihhflajkohibaaGreatDoor.Net
set_option linter.unusedSimpArgs false
set_option linter.unusedVariables false
set_option maxRecDepth 100000
open Go.RowKit Go.MapKept

def key (a b : Int) : Value := .agg #[.int .i64 a, .int .i64 b]
theorem laidB : laidOutB Tryz.prog = true := by kernel_rfl
theorem rowPair : (143 : TypeId) < Tryz.prog.types.size := of_decide_eq_true (by kernel_rfl)
theorem widePair : (match Tryz.prog.underlying 143 with | some (.array _ _) | some (.struct _) => true | _ => false) = true := by kernel_rfl
set_option maxRecDepth 100000 in
theorem law : WideMaps.KeyLaw Tryz.prog 143 := deep_law_laid laidB (m := 2) (by omega) rowPair (by kernel_rfl) widePair
theorem keyed : Maps.Keyed Tryz.prog 143 := Maps.Keyed.of_law law
theorem lits_int (d : Nat) (n : Int) (h : (Lit.int .i64 n).wf = true) : Tryz.prog.keyLits (d + 1) 3 [.int .i64 n] = some [.int .i64 n] := by
  unfold Program.keyLits
  rw [Tryz.underlying3]
  simp only [h, and_self, if_true]
theorem key_of (a b : Int) (ha : 0 ≤ a) (ha' : a < 1000) (hb : 0 ≤ b) (hb' : b < 1000) : ∃ l, keyOf Tryz.prog 143 (key a b) = some l := by
  have w1 : (Lit.int .i64 a).wf = true := by simp [Lit.wf, IntKind.min, IntKind.max, IntKind.bits, IntKind.signed]; omega
  have w2 : (Lit.int .i64 b).wf = true := by simp [Lit.wf, IntKind.min, IntKind.max, IntKind.bits, IntKind.signed]; omega
  have hk : Tryz.prog.keyType 143 = true := by kernel_rfl
  have hc : Tryz.prog.cellsOf 143 = 2 := by kernel_rfl
  have hi : Tryz.prog.cellsOf 3 = 1 := by kernel_rfl
  have h0 : 0 < Tryz.prog.types.size := of_decide_eq_true (by kernel_rfl)
  have hf : (key a b).formed Tryz.prog 143 = true := by
    unfold key Value.formed
    rw [Tryz.underlying143]
    simp [hc]
  generalize hsz : Tryz.prog.types.size = m at h0
  obtain ⟨d, rfl⟩ : ∃ d, m = d + 1 := ⟨m - 1, by omega⟩
  have hl : Tryz.prog.keyLits (d + 1 + 1) 143 [.int .i64 a, .int .i64 b] = some [.int .i64 a, .int .i64 b] := by
    unfold Program.keyLits
    rw [Tryz.underlying143]
    simp [hc, hi, lits_int d a w1, lits_int d b w2]
  refine ⟨.string (keyBytes [.int .i64 a, .int .i64 b]), ?_⟩
  unfold keyOf
  rw [Tryz.underlying143, hsz]
  simp only [hk, hf, Bool.and_self, if_true]
  have e : (key a b).cells.toList = [.int .i64 a, .int .i64 b] := rfl
  rw [e, hl]
  rfl

/-- an entry: from where, to where, and the ring's blocks -/
structure Ent where
  a : Int
  b : Int
  p : Nat
  q : Nat
def Ent.kv (e : Ent) : Value × Value := (key e.a e.b, .pointer (some ⟨e.p, 0, none⟩))
def Ent.apart (e f : Ent) : Prop := ¬ (e.a = f.a ∧ e.b = f.b) ∧ e.p ≠ f.p ∧ e.p ≠ f.q ∧ e.q ≠ f.p ∧ e.q ≠ f.q
def foot (p r : Nat) (es : List Ent) : List Nat := p :: r :: es.flatMap fun e => [e.p, e.q]
theorem foot_mem {p r k : Nat} {es : List Ent} : k ∈ foot p r es ↔ k = p ∨ k = r ∨ ∃ e ∈ es, k = e.p ∨ k = e.q := by
  simp [foot]
structure Lies (w : World) (p r : Nat) (room : Int) (s : NS) (es : List Ent) : Prop where
  st : w.heap[p]? = some (.cells #[.int .i64 (s.n : Int), .int .i64 room, .map (some r)] 113 (0, 0))
  mp : ∃ ms clk, w.heap[r]? = some (.map ms clk) ∧ (ms.toList.map (fun e => (e.key, e.val)) = es.map Ent.kv ∧ MapKept.Stamped ms clk)
  room : RingS.clamp room = s.m
  ok : s.Ok
  good : ∀ e, e ∈ es → s.good e.a e.b = true
  ap : ∀ (i j : Nat) e f, i ≠ j → es[i]? = some e → es[j]? = some f → e.apart f
  pr : p ≠ r
  pe : ∀ e, e ∈ es → e.p ≠ p ∧ e.p ≠ r ∧ e.q ≠ p ∧ e.q ≠ r ∧ e.p ≠ e.q
  ring : ∀ e, e ∈ es → RingS.Has w e.p e.q s.m (s.f e.a e.b)
  rest : ∀ a b, (∀ e, e ∈ es → ¬ (e.a = a ∧ e.b = b)) → s.f a b = []
def NetIs (w : World) (p : Nat) (F : List Nat) (s : NS) : Prop := ∃ r room es, F = foot p r es ∧ Lies w p r room s es
section
variable {w w' : World} {p r : Nat} {room : Int} {s : NS} {es : List Ent} {F : List Nat}
theorem Lies.lt (h : Lies w p r room s es) {k : Nat} (hk : k ∈ foot p r es) : k < w.heap.size := by
  obtain ⟨ms, clk, hm, _⟩ := h.mp
  rcases foot_mem.1 hk with rfl | rfl | ⟨e, he, rfl | rfl⟩
  · exact lt_of_block h.st
  · exact lt_of_block hm
  · exact (h.ring e he).p_lt
  · exact (h.ring e he).q_lt
theorem has_keep {p q m : Nat} {xs : List ByteArray} (h : RingS.Has w p q m xs) (hp : w'.heap[p]? = w.heap[p]?) (hq : w'.heap[q]? = w.heap[q]?) : RingS.Has w' p q m xs := by
  obtain ⟨b, C, h⟩ := h; exact ⟨b, C, h.keep hp hq⟩
theorem Lies.keep (h : Lies w p r room s es) (hb : ∀ k, k ∈ foot p r es → w'.heap[k]? = w.heap[k]?) : Lies w' p r room s es := by
  obtain ⟨ms, clk, hm, he⟩ := h.mp
  exact ⟨(hb p (foot_mem.2 (.inl rfl))).trans h.st, ⟨ms, clk, (hb r (foot_mem.2 (.inr (.inl rfl)))).trans hm, he⟩, h.room, h.ok, h.good, h.ap, h.pr, h.pe,
    fun e he => has_keep (h.ring e he) (hb _ (foot_mem.2 (.inr (.inr ⟨e, he, .inl rfl⟩)))) (hb _ (foot_mem.2 (.inr (.inr ⟨e, he, .inr rfl⟩)))), h.rest⟩
theorem NetIs.lt (h : NetIs w p F s) {k : Nat} (hk : k ∈ F) : k < w.heap.size := by
  obtain ⟨r, room, es, rfl, h⟩ := h; exact h.lt hk
theorem NetIs.keep (h : NetIs w p F s) (hb : ∀ k, k ∈ F → w'.heap[k]? = w.heap[k]?) : NetIs w' p F s := by
  obtain ⟨r, room, es, rfl, h⟩ := h; exact ⟨r, room, es, rfl, h.keep hb⟩
theorem NetIs.after (h : NetIs w p F s) (hb : Below w.heap.size w w') : NetIs w' p F s := h.keep fun k hk => hb.block k (h.lt hk)
theorem NetIs.kept {L : List Nat} (h : NetIs w p F s) (hk : Kept L w w') (hL : ∀ k, k ∈ F → k ∉ L) : NetIs w' p F s := h.keep fun k hm => hk.block k (h.lt hm) (hL k hm)
theorem NetIs.drewN (h : NetIs w p F s) (n : Nat) : NetIs (w.drewN n) p F s := h.keep fun _ _ => rfl
theorem NetIs.drew (h : NetIs w p F s) : NetIs w.drew p F s := h.keep fun _ _ => rfl
theorem NetIs.mem (h : NetIs w p F s) : p ∈ F := by obtain ⟨r, room, es, rfl, h⟩ := h; simp [foot]
theorem NetIs.ok (h : NetIs w p F s) : s.Ok := by obtain ⟨r, room, es, rfl, h⟩ := h; exact h.ok
/-- the ring between two nodes, and what becomes of the net when the ring turns -/
structure At (w : World) (p : Nat) (F : List Nat) (s : NS) (a b : Int) (P Q : Nat) : Prop where
  has : RingS.Has w P Q s.m (s.f a b)
  net : NetIs w p F s
  good : s.good a b = true
  subset : ∀ k, k ∈ [P, Q] → k ∈ F
  turn : ∀ w' xs, RingS.Has w' P Q s.m xs → Kept [P, Q] w w' → NetIs w' p F (s.set a b xs)
theorem Lies.at (h : Lies w p r room s es) {i : Nat} {e : Ent} (hi : es[i]? = some e) : At w p (foot p r es) s e.a e.b e.p e.q := by
  have hm := List.mem_of_getElem? hi
  obtain ⟨ms, clk, hmp, hme⟩ := h.mp
  obtain ⟨n1, n2, n3, n4, n5⟩ := h.pe e hm
  refine ⟨h.ring e hm, ⟨r, room, es, rfl, h⟩, h.good e hm, fun k hk => foot_mem.2 (.inr (.inr ⟨e, hm, by simpa using hk⟩)), fun w' xs hx hk => ⟨r, room, es, rfl, ?_⟩⟩
  have hok : (s.set e.a e.b xs).Ok := h.ok.set (h.good e hm) hx.cap
  refine ⟨(hk.block p (lt_of_block h.st) (by simp; exact ⟨n1.symm, n3.symm⟩)).trans h.st, ⟨ms, clk, (hk.block r (lt_of_block hmp) (by simp; exact ⟨n2.symm, n4.symm⟩)).trans hmp, hme⟩, h.room, hok, h.good, h.ap, h.pr, h.pe, ?_, ?_⟩
  · intro f hf
    obtain ⟨j, hj⟩ := List.getElem?_of_mem hf
    by_cases hij : i = j
    · subst hij
      rw [hi] at hj
      injection hj with hj
      subst hj
      rw [NS.set_same]; exact hx
    · obtain ⟨k1, k2, k3, k4, k5⟩ := h.ap i j e f hij hi hj
      rw [NS.set_other _ _ _ _ _ _ (by rintro ⟨e1, e2⟩; exact k1 ⟨e1.symm, e2.symm⟩)]
      exact has_keep (h.ring f hf) (hk.block _ (h.ring f hf).p_lt (by simp; exact ⟨k2.symm, k4.symm⟩)) (hk.block _ (h.ring f hf).q_lt (by simp; exact ⟨k3.symm, k5.symm⟩))
  · intro a b hab
    rw [NS.set_other _ _ _ _ _ _ (by rintro ⟨e1, e2⟩; exact hab e hm ⟨e1.symm, e2.symm⟩)]
    exact h.rest a b hab
theorem good_key {a b : Int} (h : s.Ok) (hg : s.good a b = true) : ∃ l, keyOf Tryz.prog 143 (key a b) = some l := by
  simp only [NS.good, decide_eq_true_eq] at hg
  have := h.n64
  exact key_of a b (by omega) (by omega) (by omega) (by omega)
theorem key_inj {a b c d : Int} (h : key a b = key c d) : a = c ∧ b = d := by
  simp [key] at h; exact h
/-- what a look into the map gives -/
theorem Lies.look (h : Lies w p r room s es) {a b : Int} (hg : s.good a b = true) :
    (∃ (i : Nat) (e : Ent), es[i]? = some e ∧ e.a = a ∧ e.b = b ∧ (Instr.lookup 111 (.map (some r)) (key a b) false).run Tryz.prog w = .ok (.pointer (some ⟨e.p, 0, none⟩)) w) ∨
    ((∀ e, e ∈ es → ¬ (e.a = a ∧ e.b = b)) ∧ (Instr.lookup 111 (.map (some r)) (key a b) false).run Tryz.prog w = .ok (.pointer none) w) := by
  obtain ⟨ms, clk, hmp, hme, hstm⟩ := h.mp
  obtain ⟨l, hl⟩ := good_key h.ok hg
  have hkeys : ∀ x, x ∈ ms.toList → ∃ l, keyOf Tryz.prog 143 x.key = some l := by
    intro x hx
    have : (x.key, x.val) ∈ es.map Ent.kv := by rw [← hme]; exact List.mem_map.2 ⟨x, hx, rfl⟩
    obtain ⟨e, he, hkv⟩ := List.mem_map.1 this
    simp only [Ent.kv, Prod.mk.injEq] at hkv
    rw [← hkv.1]
    exact good_key h.ok (h.good e he)
  have hz : (zeroValue 123).run Tryz.prog w = .ok (.pointer none) w := by kernel_rfl
  rcases keyed.find w hl ms.toList hkeys with ⟨h1, h2⟩ | ⟨j, e0, h1, h2, h3⟩
  · refine .inr ⟨fun e he hab => ?_, by simp [Instr.lookup, run_underlying Tryz.underlying111, MapKept.run_getObj_map hmp, keyed.check w _ hl, h1, hz, Result.andThen]⟩
    have : e.kv ∈ ms.toList.map (fun e => (e.key, e.val)) := by rw [hme]; exact List.mem_map.2 ⟨e, he, rfl⟩
    obtain ⟨x, hx, hkv⟩ := List.mem_map.1 this
    simp only [Ent.kv, Prod.mk.injEq] at hkv
    exact h2 x hx (by rw [hkv.1, hab.1, hab.2])
  · have hj : (ms.toList.map (fun e => (e.key, e.val)))[j]? = some (e0.key, e0.val) := by rw [List.getElem?_map, h2]; rfl
    rw [hme, List.getElem?_map] at hj
    cases he : es[j]? with
    | none => rw [he] at hj; cases hj
    | some e =>
      rw [he] at hj
      simp only [Option.map_some, Option.some.injEq, Ent.kv, Prod.mk.injEq] at hj
      obtain ⟨e1, e2⟩ := key_inj (hj.1.trans h3)
      refine .inl ⟨j, e, he, e1, e2, ?_⟩
      rw [hj.2]
      simp [Instr.lookup, run_underlying Tryz.underlying111, MapKept.run_getObj_map hmp, keyed.check w _ hl, h1, Result.andThen]
/-- a new ring is laid into the map -/
theorem Lies.more (h : Lies w p r room s es) {a b : Int} (hg : s.good a b = true) (hno : ∀ e, e ∈ es → ¬ (e.a = a ∧ e.b = b)) {w1 : World} {P Q : Nat} (hb : Below w.heap.size w w1) (hh : RingS.Has w1 P Q s.m []) (hP : w.heap.size ≤ P) (hQ : w.heap.size ≤ Q) (hPQ : P ≠ Q) :
    ∃ w2, (Instr.mapUpdate 111 (.map (some r)) (key a b) (.pointer (some ⟨P, 0, none⟩))).run Tryz.prog w1 = .ok () w2 ∧ Lies w2 p r room s (es ++ [⟨a, b, P, Q⟩]) ∧ Kept [r] w1 w2 := by
  have h1 : Lies w1 p r room s es := h.keep fun k hk => hb.block k (h.lt hk)
  obtain ⟨ms, clk, hmp, hme, hstm⟩ := h1.mp
  obtain ⟨l, hl⟩ := good_key h.ok hg
  have hkeys : ∀ x, x ∈ ms.toList → (∃ l, keyOf Tryz.prog 143 x.key = some l) ∧ x.key ≠ key a b := by
    intro x hx
    have : (x.key, x.val) ∈ es.map Ent.kv := by rw [← hme]; exact List.mem_map.2 ⟨x, hx, rfl⟩
    obtain ⟨e, he, hkv⟩ := List.mem_map.1 this
    simp only [Ent.kv, Prod.mk.injEq] at hkv
    rw [← hkv.1]
    exact ⟨good_key h.ok (h.good e he), fun e2 => hno e he (key_inj e2)⟩
  rcases keyed.find w1 hl ms.toList (fun x hx => (hkeys x hx).1) with ⟨f1, f2⟩ | ⟨j, e0, f1, f2, f3⟩
  · have hr := lt_of_block hmp
    have hk : Kept [r] w1 (ChangeMaps.setBlock w1 r (.map (ms.push ⟨key a b, .pointer (some ⟨P, 0, none⟩), clk⟩) (clk + 1))) := by
      refine ⟨rfl, rfl, rfl, by simp [ChangeMaps.setBlock], fun k hk hn => ?_⟩
      exact ChangeMaps.heap_setBlock_other hmp _ (by simpa using hn)
    refine ⟨_, by simp only [Instr.mapUpdate, run_underlying Tryz.underlying111, MapKept.run_getObj_map hmp, keyed.check w1 false hl, f1, MapKept.run_setObj_map _ hmp, Result.andThen, Sem.run_bind, Sem.run_pure, ChangeMaps.setBlock], ?_, hk⟩
    have hk2 : ∀ k, k ∈ foot p r es → k ≠ r → (ChangeMaps.setBlock w1 r (.map (ms.push ⟨key a b, .pointer (some ⟨P, 0, none⟩), clk⟩) (clk + 1))).heap[k]? = w1.heap[k]? := fun k hkm hkr => hk.block k (h1.lt hkm) (by simpa using hkr)
    have hltf : ∀ k, k ∈ foot p r es → k < w.heap.size := fun k hkm => h.lt hkm
    have hpn : ∀ k, k ∈ foot p r es → k ≠ P ∧ k ≠ Q := fun k hkm => by have := hltf k hkm; omega
    have hrP : r ≠ P ∧ r ≠ Q := hpn r (foot_mem.2 (.inr (.inl rfl)))
    have hpP : p ≠ P ∧ p ≠ Q := hpn p (foot_mem.2 (.inl rfl))
    refine ⟨(hk2 p (foot_mem.2 (.inl rfl)) h.pr).trans h1.st, ⟨_, _, ChangeMaps.heap_setBlock_same hmp _, by simp [hme, Ent.kv], stamped_push hstm f2⟩, h.room, h.ok, ?_, ?_, h.pr, ?_, ?_, ?_⟩
    · intro e he
      rcases List.mem_append.1 he with he | he
      · exact h.good e he
      · simp at he; subst he; exact hg
    · intro i j e f hij hi hj
      have new : ∀ k g, es[k]? = some g → g.apart ⟨a, b, P, Q⟩ ∧ Ent.apart ⟨a, b, P, Q⟩ g := fun k g hk => by
        have hm := List.mem_of_getElem? hk
        have q1 := hpn g.p (foot_mem.2 (.inr (.inr ⟨g, hm, .inl rfl⟩)))
        have q2 := hpn g.q (foot_mem.2 (.inr (.inr ⟨g, hm, .inr rfl⟩)))
        exact ⟨⟨hno g hm, q1.1, q1.2, q2.1, q2.2⟩, ⟨fun e => hno g hm ⟨e.1.symm, e.2.symm⟩, q1.1.symm, q2.1.symm, q1.2.symm, q2.2.symm⟩⟩
      rcases Nat.lt_or_ge i es.length with hi1 | hi1
      · rw [List.getElem?_append_left hi1] at hi
        rcases Nat.lt_or_ge j es.length with hj1 | hj1
        · rw [List.getElem?_append_left hj1] at hj
          exact h.ap i j e f hij hi hj
        · rw [List.getElem?_append_right hj1] at hj
          have : j - es.length = 0 := by have := (List.getElem?_eq_some_iff.1 hj).1; simp at this; omega
          rw [this] at hj; simp at hj; subst hj
          exact (new i e hi).1
      · rw [List.getElem?_append_right hi1] at hi
        have hi0 : i - es.length = 0 := by have := (List.getElem?_eq_some_iff.1 hi).1; simp at this; omega
        rw [hi0] at hi; simp at hi; subst hi
        rcases Nat.lt_or_ge j es.length with hj1 | hj1
        · rw [List.getElem?_append_left hj1] at hj
          exact (new j f hj).2
        · rw [List.getElem?_append_right hj1] at hj
          have : j - es.length = 0 := by have := (List.getElem?_eq_some_iff.1 hj).1; simp at this; omega
          omega
    · intro e he
      rcases List.mem_append.1 he with he | he
      · exact h.pe e he
      · simp at he; subst he; exact ⟨hpP.1.symm, hrP.1.symm, hpP.2.symm, hrP.2.symm, hPQ⟩
    · intro e he
      rcases List.mem_append.1 he with he | he
      · obtain ⟨_, n2, _, n4, _⟩ := h.pe e he
        exact has_keep (h1.ring e he) (hk2 _ (foot_mem.2 (.inr (.inr ⟨e, he, .inl rfl⟩))) n2) (hk2 _ (foot_mem.2 (.inr (.inr ⟨e, he, .inr rfl⟩))) n4)
      · simp at he; subst he
        rw [h.rest a b hno]
        exact has_keep hh (hk.block _ hh.p_lt (by simp; exact hrP.1.symm)) (hk.block _ hh.q_lt (by simp; exact hrP.2.symm))
    · intro x y hxy
      exact h.rest x y fun e he => hxy e (by simp [he])
  · exact absurd f3 (hkeys e0 (List.mem_of_getElem? f2)).2
set_option maxRecDepth 100000 in
theorem Lies.look_at (h : Lies w p r room s es) {i : Nat} {e : Ent} (hi : es[i]? = some e) :
    (Instr.lookup 111 (.map (some r)) (.agg #[.int .i64 e.a, .int .i64 e.b]) false).run Tryz.prog w = .ok (.pointer (some ⟨e.p, 0, none⟩)) w := by
  have hm := List.mem_of_getElem? hi
  rcases h.look (h.good e hm) with ⟨j, f, hj, h1, h2, h3⟩ | ⟨h1, _⟩
  · by_cases hij : i = j
    · subst hij
      rw [hi] at hj
      injection hj with hj
      subst hj
      exact h3
    · exact absurd ⟨h1.symm, h2.symm⟩ (h.ap i j e f hij hi hj).1
  · exact absurd ⟨rfl, rfl⟩ (h1 e hm)
theorem Lies.look_none (h : Lies w p r room s es) {a b : Int} (hg : s.good a b = true) (hno : ∀ e, e ∈ es → ¬ (e.a = a ∧ e.b = b)) :
    (Instr.lookup 111 (.map (some r)) (.agg #[.int .i64 a, .int .i64 b]) false).run Tryz.prog w = .ok (.pointer none) w := by
  rcases h.look hg with ⟨j, f, hj, h1, h2, h3⟩ | ⟨_, h2⟩
  · exact absurd ⟨h1, h2⟩ (hno f (List.mem_of_getElem? hj))
  · exact h2
end
end Go.Proofs.YtihhflajkohibaaGreatDoor.Net
