/- A region that draws its order, whose last operation writes a cell that the region reads: what holds of memory till then is asked of every operation but that last one. No function of the program. -/
import Derived.OrdersHeld
import Derived.RegionTactic
namespace Go.Proofs.YtihhflajkohibaaGreatDoor
set_option linter.unusedSimpArgs false
set_option linter.unusedVariables false
set_option maxRecDepth 100000
open Go

/-- the operation at place L waits for the one at place i, at once or through others -/
def waitsN (md : Region.Mode) (ops : Array Oper) : Nat → Nat → Nat → Bool
  | 0, _, _ => false
  | n + 1, L, i => match ops[L]? with
    | some o => o.after.any fun e => Region.binds md e && (e.on == i || waitsN md ops n e.on i)
    | none => false
/-- what is listed waits for nothing that is not -/
def Closed (md : Region.Mode) (ops : Array Oper) (listed : Array Bool) : Prop :=
  ∀ j o, ops[j]? = some o → listed.getD j false = true → ∀ e ∈ o.after, Region.binds md e = true → listed.getD e.on false = true
def closedB (md : Region.Mode) (ops : Array Oper) (listed : Array Bool) : Bool :=
  (List.range ops.size).all fun j => !(listed.getD j false) || match ops[j]? with
    | some o => o.after.all fun e => !(Region.binds md e) || listed.getD e.on false
    | none => true
theorem closed_of {md : Region.Mode} {ops : Array Oper} {listed : Array Bool} (h : closedB md ops listed = true) : Closed md ops listed := by
  intro j o ho hj e he hb
  have hlt : j < ops.size := (Array.getElem?_eq_some_iff.1 ho).1
  have k := List.all_eq_true.1 h j (List.mem_range.2 hlt)
  rw [hj, ho] at k
  simp only [Bool.not_true, Bool.false_or, Array.all_eq_true_iff_forall_mem] at k
  have k2 := k e he
  rw [hb] at k2
  simpa using k2
theorem Closed.done {md : Region.Mode} {ops : Array Oper} {listed : Array Bool} (h : Closed md ops listed) : ∀ (n L i : Nat), waitsN md ops n L i = true → listed.getD L false = true → listed.getD i false = true := by
  intro n
  induction n with
  | zero => intro L i hw; cases hw
  | succ n ih =>
    intro L i hw hL
    unfold waitsN at hw
    cases ho : ops[L]? with
    | none => rw [ho] at hw; cases hw
    | some o =>
      rw [ho] at hw
      simp only [Array.any_eq_true] at hw
      obtain ⟨m, hm, hx⟩ := hw
      simp only [Bool.and_eq_true, Bool.or_eq_true, beq_iff_eq] at hx
      have k := h L o ho hL _ (Array.getElem_mem hm) hx.1
      rcases hx.2 with e | e
      · rw [← e]; exact k
      · exact ih _ _ e k
/-- who waits for what is not listed may not come up -/
theorem Closed.not_yet {md : Region.Mode} {ops : Array Oper} {listed : Array Bool} (h : Closed md ops listed) {n L i : Nat} (hw : waitsN md ops n L i = true) (hL : L ∈ Region.ready md ops listed) : listed.getD i false = true := by
  obtain ⟨_, o, ho, hall⟩ := mem_ready.1 hL
  cases n with
  | zero => cases hw
  | succ n =>
    unfold waitsN at hw
    rw [ho] at hw
    simp only [Array.any_eq_true] at hw
    obtain ⟨m, hm, hx⟩ := hw
    simp only [Bool.and_eq_true, Bool.or_eq_true, beq_iff_eq] at hx
    have k := hall _ (Array.getElem_mem hm) hx.1
    rcases hx.2 with e | e
    · rw [← e]; exact k
    · exact h.done _ _ _ e k
theorem Closed.set {md : Region.Mode} {ops : Array Oper} {listed : Array Bool} (h : Closed md ops listed) {j : Nat} (hj : j ∈ Region.ready md ops listed) : Closed md ops (listed.setIfInBounds j true) := by
  intro l o ho hl e he hb
  by_cases c : j = l
  · subst c
    obtain ⟨_, o', ho', hall⟩ := mem_ready.1 hj
    rw [ho] at ho'
    injection ho' with ho'
    subst ho'
    exact getD_set_true (hall e he hb)
  · rw [getD_set_ne false c] at hl
    exact getD_set_true (h l o ho hl e he hb)
theorem ready_off {md : Region.Mode} {ops : Array Oper} {listed : Array Bool} {i : Nat} (hi : i ∈ Region.ready md ops listed) : listed.getD i false = false := by
  have h := (mem_ready.1 hi).1
  rw [Array.getD_eq_getD_getElem?] at h ⊢
  cases hg : listed[i]? with
  | none => rfl
  | some v => rw [hg] at h; exact h

section
variable {P : Program} {ops : Array Oper} {Q : Exit → Act → World → Prop} {md : Region.Mode} {S : World → Prop} {L : Nat}
/-- whatever order is picked: behind each operation but the one at place L, S holds -/
def AnyL (P : Program) (md : Region.Mode) (ops : Array Oper) (Q : Exit → Act → World → Prop) (S : World → Prop) (L : Nat) : Nat → Array Bool → Act → World → Prop
  | 0, listed, a, w => Region.ready md ops listed = [] ∧ Q .normal a w
  | n + 1, listed, a, w => (Region.ready md ops listed = [] → Q .normal a w) ∧ ∀ i ∈ Region.ready md ops listed, wpOp P ops Q i (fun b v => (i ≠ L → S v) ∧ AnyL P md ops Q S L n (listed.setIfInBounds i true) b v) a w

theorem AnyL.any {n : Nat} : ∀ {listed : Array Bool} {a : Act} {w : World}, AnyL P md ops Q S L n listed a w → wpAny P md ops Q n listed a w := by
  induction n with
  | zero => intro _ _ _ h; exact h
  | succ n ih => intro _ _ _ h; exact ⟨h.1, fun i hi => wpOp_mono (fun _ _ k => ih k.2) (h.2 i hi)⟩

theorem AnyL.take {i : Nat} {oi : Oper} {u : Value} {n : Nat} {listed : Array Bool} {a : Act} {w : World} (hi : ops[i]? = some oi) (hs : Region.noSelect ops = true) (hf : Region.free md ops listed i = true)
    (hr : (Region.ready md ops listed).contains i = true) (hQ : ∀ c a w, Q (.panic c) (a.put oi.dst u) w → Q (.panic c) a w) (hw : waitsN md ops ops.size L i = true) (hcl : closedB md ops listed = true) (hy : YieldsIf P ops S oi u a) (hS : S w)
    (h : AnyL P md ops Q S L n (listed.setIfInBounds i true) (a.put oi.dst u) w) : AnyL P md ops Q S L (n + 1) listed a w := by
  have hsel := Region.noSelect_spec hs
  have hfree := Region.free_spec hi hf
  have hr' : i ∈ Region.ready md ops listed := by simpa using hr
  have hcl' := closed_of hcl
  clear hs hf hr hcl
  induction n generalizing listed a w with
  | zero =>
    refine ⟨fun e => absurd hr' (by rw [e]; simp), fun j hj => ?_⟩
    by_cases e : j = i
    · subst e; exact hy.wpOp hi hS ⟨fun _ => hS, h⟩
    · exact absurd (ready_mono hj e) (by rw [h.1]; simp)
  | succ n ih =>
    refine ⟨fun e => absurd hr' (by rw [e]; simp), fun j hj => ?_⟩
    by_cases e : j = i
    · subst e; exact hy.wpOp hi hS ⟨fun _ => hS, h⟩
    · have k1 := h.2 j (ready_mono hj e)
      obtain ⟨hun, oj, hoj, hall⟩ := mem_ready.1 hj
      have hno : ∀ x ∈ oj.after, Region.binds md x = true → x.on ≠ i := fun x hx hb he => by
        have k2 := hall x hx hb
        have k3 := (mem_ready.1 hr').1
        rw [he] at k2
        rw [Array.getD_eq_getD_getElem?] at k2 k3
        cases hg : listed[i]? with
        | none =>
          rw [hg] at k3
          cases k3
        | some v =>
          rw [hg] at k2 k3
          have k3' : v = false := k3
          have k2' : v = true := k2
          rw [k3'] at k2'
          cases k2'
      have hjL : j ≠ L := fun ej => by
        subst ej
        have := hcl'.not_yet hw hj
        rw [ready_off hr'] at this
        cases this
      have k4 := wpOp_putIf hoj (hfree j oj hoj e hun hno) (fun cs b => hsel i oi cs b hi) (fun cs b => hsel j oj cs b hoj) hQ hy k1
      refine wpOp_mono (fun b v k5 => ⟨fun _ => k5.2.1 hjL, ?_⟩) k4
      refine ih k5.1 (k5.2.1 hjL) ?_ (fun k ok hk hki hkun hkno => hfree k ok hk hki ?_ hkno) (ready_mono hr' (Ne.symm e)) (hcl'.set hj)
      · rw [Array.setIfInBounds_comm _ _ e]
        exact k5.2.2
      · by_cases ek : j = k
        · subst ek; exact hun
        · rw [getD_set_ne true ek] at hkun; exact hkun

/-- one operation alone may come up: it is carried out -/
theorem AnyL.only {i : Nat} {o : Oper} {n : Nat} {listed : Array Bool} {a : Act} {w : World} (hr : Region.ready md ops listed = [i]) (ho : ops[i]? = some o)
    (h : ∀ K : Act → World → Prop, (∀ b v, (i ≠ L → S v) → ((i ≠ L → S v) → AnyL P md ops Q S L n (listed.setIfInBounds i true) b v) → K b v) → if Region.wanted o (yielded ops a.tmps) = true then Oper.wp P o a w K Q else K (a.put o.dst undef) w) :
    AnyL P md ops Q S L (n + 1) listed a w := by
  refine ⟨fun e => absurd hr (by rw [e]; simp), fun j hj => ?_⟩
  rw [hr] at hj
  obtain rfl : j = i := by simpa using hj
  exact wpOp_step ho fun K hK => h K fun b v h1 h2 => hK b v ⟨h1, h2 h1⟩
theorem AnyL.done {n : Nat} {listed : Array Bool} {a : Act} {w : World} (hr : Region.ready md ops listed = []) (h : Q .normal a w) : AnyL P md ops Q S L n listed a w := by
  cases n with
  | zero => exact ⟨hr, h⟩
  | succ n => exact ⟨fun _ => h, by rw [hr]; simp⟩
theorem wp_region_last {id : Nat} {a : Act} {w : World} (S : World → Prop) (L : Nat) (hm : P.follows .mixedOrders = true) (h : AnyL P .any ops Q S L ops.size (Array.replicate ops.size false) a w.drew) : (Code.region id ops true).wp P Q a w :=
  wp_region_any hm h.any
end
end Go.Proofs.YtihhflajkohibaaGreatDoor
