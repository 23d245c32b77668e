/- A region that draws its order, walked once: each operation is shown, from facts on the values of those that it waits for, to give a value of which a fact holds, and to leave the facts that are still needed. No function of the program. -/
import Derived.Test.YtihhflajkohibaaGreatDoorHeld
namespace Go.Proofs.YtihhflajkohibaaGreatDoor
set_option linter.unusedSimpArgs false
set_option linter.unusedVariables false
set_option maxRecDepth 100000
open Go

/-- all operations' values laid into a frame -/
def putAll : List Oper → (Nat → Value) → Nat → Act → Act
  | [], _, _, a => a
  | o :: l, us, i, a => putAll l us (i + 1) (a.put o.dst (us i))
def upd (us : Nat → Value) (i : Nat) (u : Value) : Nat → Value := fun j => if j = i then u else us j
/-- no slot is written twice -/
def dstsApart : List Oper → Bool
  | [] => true
  | o :: l => (match o.dst with
    | some d => l.all fun x => x.dst != some d
    | none => true) && dstsApart l
theorem dstsApart_cons {o : Oper} {l : List Oper} (h : dstsApart (o :: l) = true) : (∀ d, o.dst = some d → ∀ x ∈ l, x.dst ≠ some d) ∧ dstsApart l = true := by
  simp only [dstsApart, Bool.and_eq_true] at h
  refine ⟨fun d hd x hx => ?_, h.2⟩
  have h1 := h.1
  rw [hd] at h1
  simpa using List.all_eq_true.1 h1 x hx
theorem put_put (a : Act) (d : Option Tmp) (u v : Value) : (a.put d u).put d v = a.put d v := by
  cases d with
  | none => rfl
  | some d => simp [Act.put]
theorem put_self (a : Act) (d : Tmp) : a.put (some d) (a.tmps.getD d undef) = a := by
  obtain ⟨t, df⟩ := a
  simp only [Act.put, Act.mk.injEq, and_true]
  apply Array.ext_getElem?
  intro i
  rw [Array.getElem?_setIfInBounds]
  by_cases h : d = i
  · subst h
    by_cases hl : d < t.size
    · simp [hl]
    · simp [hl]
  · simp [h]
theorem putAll_put (l : List Oper) (us : Nat → Value) (i : Nat) (a : Act) (x : Option Tmp) (u : Value) (h : ∀ d, x = some d → ∀ o ∈ l, o.dst ≠ some d) : (putAll l us i a).put x u = putAll l us i (a.put x u) := by
  induction l generalizing i a with
  | nil => rfl
  | cons o l ih =>
    simp only [putAll]
    rw [ih _ _ fun d hd k hk => h d hd k (List.mem_cons_of_mem _ hk)]
    congr 1
    exact Act.put_comm a _ _ fun d hd hx => h d hx o List.mem_cons_self hd
theorem putAll_congr (l : List Oper) (us vs : Nat → Value) (i : Nat) (a : Act) (h : ∀ j, i ≤ j → us j = vs j) : putAll l us i a = putAll l vs i a := by
  induction l generalizing i a with
  | nil => rfl
  | cons o l ih => simp only [putAll]; rw [h i (Nat.le_refl _), ih _ _ fun j hj => h j (by omega)]
theorem putAll_upd (l : List Oper) (us : Nat → Value) (i : Nat) (a : Act) (k : Nat) (o : Oper) (u : Value) (hd : dstsApart l = true) (ho : l[k]? = some o) : (putAll l us i a).put o.dst u = putAll l (upd us (i + k) u) i a := by
  induction l generalizing i a k with
  | nil => simp at ho
  | cons x l ih =>
    obtain ⟨h1, h2⟩ := dstsApart_cons hd
    cases k with
    | zero =>
      simp only [List.getElem?_cons_zero, Option.some.injEq] at ho
      subst ho
      simp only [putAll, Nat.add_zero]
      rw [putAll_put _ _ _ _ _ _ fun d hd k hk => h1 d hd k hk, put_put]
      simp only [upd, if_pos]
      exact putAll_congr _ _ _ _ _ fun j hj => by unfold upd; rw [if_neg (by omega)]
    | succ k =>
      simp only [List.getElem?_cons_succ] at ho
      simp only [putAll]
      rw [ih (i + 1) _ k h2 ho, show i + 1 + k = i + (k + 1) from by omega]
      congr 2
      simp only [upd]
      rw [if_neg (by omega)]
theorem putAll_self (l : List Oper) (us : Nat → Value) (i : Nat) (a : Act) (h : ∀ k o d, l[k]? = some o → o.dst = some d → us (i + k) = a.tmps.getD d undef) : putAll l us i a = a := by
  induction l generalizing i with
  | nil => rfl
  | cons o l ih =>
    simp only [putAll]
    have e : a.put o.dst (us i) = a := by
      cases hd : o.dst with
      | none => rfl
      | some d => have k := h 0 o d rfl hd
                  rw [Nat.add_zero] at k
                  rw [k, put_self]
    rw [e]
    exact ih _ fun k o d ho hd => by rw [show i + 1 + k = i + (k + 1) from by omega]; exact h (k + 1) o d ho hd

/-- who waits for whom, as bits: ms at place L has bit i, where the operation at L waits for the one at i -/
def waitsB (ms : List Nat) (L i : Nat) : Bool := (ms.getD L 0).testBit i
def bitsOf (ms : List Nat) : List Edge → Nat
  | [] => 0
  | e :: l => cond (Region.binds .any e) ((1 <<< e.on) ||| ms.getD e.on 0) 0 ||| bitsOf ms l
/-- each bit is one of an edge -/
def masksOk (ms : List Nat) : Nat → List Oper → Bool
  | _, [] => true
  | i, o :: l => ((ms.getD i 0 ||| bitsOf ms o.after.toList) == bitsOf ms o.after.toList) && masksOk ms (i + 1) l
theorem bitsOf_bit {ms : List Nat} {l : List Edge} {i : Nat} (h : (bitsOf ms l).testBit i = true) : ∃ e ∈ l, Region.binds .any e = true ∧ (e.on = i ∨ waitsB ms e.on i = true) := by
  induction l with
  | nil => simp [bitsOf] at h
  | cons e l ih =>
    simp only [bitsOf, Nat.testBit_or, Bool.or_eq_true] at h
    rcases h with h | h
    · cases hb : Region.binds .any e with
      | false => rw [hb] at h; simp at h
      | true =>
        rw [hb] at h
        simp only [cond_true, Nat.testBit_or, Bool.or_eq_true] at h
        refine ⟨e, List.mem_cons_self, hb, h.imp (fun h => ?_) id⟩
        rw [Nat.one_shiftLeft, Nat.testBit_two_pow] at h
        simpa using h
    · obtain ⟨e', h1, h2⟩ := ih h
      exact ⟨e', List.mem_cons_of_mem _ h1, h2⟩
theorem masksOk_at {ms : List Nat} {l : List Oper} {i k : Nat} {o : Oper} (h : masksOk ms i l = true) (ho : l[k]? = some o) {j : Nat} (hw : waitsB ms (i + k) j = true) : ∃ e ∈ o.after, Region.binds .any e = true ∧ (e.on = j ∨ waitsB ms e.on j = true) := by
  induction l generalizing i k with
  | nil => simp at ho
  | cons x l ih =>
    simp only [masksOk, Bool.and_eq_true, beq_iff_eq] at h
    cases k with
    | zero =>
      simp only [List.getElem?_cons_zero, Option.some.injEq] at ho
      subst ho
      have : (bitsOf ms x.after.toList).testBit j = true := by
        rw [← h.1, Nat.testBit_or]
        unfold waitsB at hw
        rw [Nat.add_zero] at hw
        rw [hw]; rfl
      obtain ⟨e, h1, h2⟩ := bitsOf_bit this
      exact ⟨e, by simpa using h1, h2⟩
    | succ k => exact ih h.2 (by simpa using ho) (by rw [show i + 1 + k = i + (k + 1) from by omega]; exact hw)
section
variable {ms : List Nat} {ops : List Oper} {listed : Array Bool}
theorem waits_in (hlen : ms.length ≤ ops.length) {L i : Nat} (hw : waitsB ms L i = true) : L < ops.length := by
  rcases Nat.lt_or_ge L ops.length with h | h
  · exact h
  · unfold waitsB at hw
    rw [List.getD_eq_getElem?_getD, List.getElem?_eq_none (by omega)] at hw
    simp at hw
theorem Closed.doneB (hm : masksOk ms 0 ops = true) (hlen : ms.length ≤ ops.length) (hback : ∀ i o, ops[i]? = some o → ∀ e ∈ o.after, Region.binds .any e = true → e.on < i) (h : Closed .any ops.toArray listed) :
    ∀ L i, waitsB ms L i = true → listed.getD L false = true → listed.getD i false = true := by
  intro L
  induction L using Nat.strongRecOn with
  | _ L ih =>
    intro i hw hL
    have hlt := waits_in hlen hw
    obtain ⟨e, he, hb, hx⟩ := masksOk_at (i := 0) (k := L) hm (List.getElem?_eq_getElem hlt) (by rw [Nat.zero_add]; exact hw)
    have k := h L _ (by simp [hlt]) hL e he hb
    rcases hx with rfl | hx
    · exact k
    · exact ih e.on (hback L _ (List.getElem?_eq_getElem hlt) e he hb) i hx k
theorem Closed.readyB (hm : masksOk ms 0 ops = true) (hlen : ms.length ≤ ops.length) (hback : ∀ i o, ops[i]? = some o → ∀ e ∈ o.after, Region.binds .any e = true → e.on < i) (h : Closed .any ops.toArray listed)
    {L i : Nat} (hw : waitsB ms L i = true) (hL : L ∈ Region.ready .any ops.toArray listed) : listed.getD i false = true := by
  have hlt := waits_in hlen hw
  obtain ⟨e, he, hb, hx⟩ := masksOk_at (i := 0) (k := L) hm (List.getElem?_eq_getElem hlt) (by rw [Nat.zero_add]; exact hw)
  obtain ⟨_, o, ho, hall⟩ := mem_ready.1 hL
  have e1 : o = ops[L] := by simpa [hlt] using ho.symm
  subst e1
  have k := hall e he hb
  rcases hx with rfl | hx
  · exact k
  · exact h.doneB hm hlen hback _ _ hx k
end
/-- the facts on those that are listed -/
def Need (V : Nat → (Nat → Value) → World → Prop) (us : Nat → Value) (v : World) : List Nat → Prop
  | [] => True
  | j :: l => V j us v ∧ Need V us v l
theorem need_of {V : Nat → (Nat → Value) → World → Prop} {us : Nat → Value} {v : World} {l : List Nat} (h : ∀ j ∈ l, V j us v) : Need V us v l := by
  induction l with
  | nil => trivial
  | cons j l ih => exact ⟨h j List.mem_cons_self, ih fun k hk => h k (List.mem_cons_of_mem _ hk)⟩
/-- what stood in the slot that an operation writes -/
def stood (ops : List Oper) (a : Act) (j : Nat) : Value := ((ops[j]?).bind (·.dst)).elim undef fun d => a.tmps.getD d undef
def Olds (ops : List Oper) (a : Act) (us : Nat → Value) : List Nat → Prop
  | [] => True
  | j :: l => us j = stood ops a j ∧ Olds ops a us l
theorem olds_of {ops : List Oper} {a : Act} {us : Nat → Value} {l : List Nat} (h : ∀ j ∈ l, us j = stood ops a j) : Olds ops a us l := by
  induction l with
  | nil => trivial
  | cons j l ih => exact ⟨h j List.mem_cons_self, ih fun k hk => h k (List.mem_cons_of_mem _ hk)⟩

section
variable (P : Program) (Q : Exit → Act → World → Prop) (ops : List Oper) (a : Act) (V : Nat → (Nat → Value) → World → Prop) (R : World → Prop) (needs eats olds : List (List Nat)) (ms : List Nat)
/-- what is asked of the operation at place i -/
def FlowStep (i : Nat) (o : Oper) : Prop :=
  ∀ (us : Nat → Value) (v : World), R v → Need V us v (needs.getD i []) → Olds ops a us (olds.getD i []) → ∀ K : Act → World → Prop,
    (∀ u v', V i (upd us i u) v' → R v' → (∀ j, j ≠ i → (eats.getD i []).contains j = false → waitsB ms j i = false → (∀ e, e < ops.length → waitsB ms i e = true → (eats.getD e []).contains j = false) → V j us v → V j (upd us i u) v') → K ((putAll ops us 0 a).put o.dst u) v') →
    if Region.wanted o (yielded ops.toArray (putAll ops us 0 a).tmps) = true then Oper.wp P o (putAll ops us 0 a) v K Q else K ((putAll ops us 0 a).put o.dst undef) v
def FlowSteps : Nat → List Oper → Prop
  | _, [] => True
  | i, o :: l => FlowStep P Q ops a V R needs eats olds ms i o ∧ FlowSteps (i + 1) l
end
/-- the edges, as a Bool: what an operation needs comes ahead of it, and whoever ends a fact comes behind those that need it -/
def flowOk (ops : List Oper) (needs eats olds : List (List Nat)) (ms : List Nat) : Bool :=
  let n := ops.length
  (dstsApart ops && masksOk ms 0 ops && decide (ms.length ≤ n)) && ((List.range n).all fun i => ((ops[i]?).map fun o => o.after.all fun e => !(Region.binds .any e) || decide (e.on < i)).getD true) &&
    ((List.range n).all fun i => (needs.getD i []).all fun j => (decide (n ≤ j) || waitsB ms i j) && ((List.range n).all fun e => !((eats.getD e []).contains j) || (e == i || waitsB ms e i))) &&
    ((List.range n).all fun i => (olds.getD i []).all fun j => j == i || (decide (j < n) && waitsB ms j i))

theorem flowOk_parts {ops : List Oper} {needs eats olds : List (List Nat)} {ms : List Nat} (h : flowOk ops needs eats olds ms = true) : (dstsApart ops = true ∧ masksOk ms 0 ops = true ∧ ms.length ≤ ops.length) ∧
    (∀ i o, ops[i]? = some o → ∀ e ∈ o.after, Region.binds .any e = true → e.on < i) ∧
    (∀ i, i < ops.length → ∀ j ∈ needs.getD i [], (ops.length ≤ j ∨ waitsB ms i j = true) ∧ ∀ e, e < ops.length → (eats.getD e []).contains j = true → e = i ∨ waitsB ms e i = true) ∧
    (∀ i, i < ops.length → ∀ j ∈ olds.getD i [], j = i ∨ j < ops.length ∧ waitsB ms j i = true) := by
  unfold flowOk at h
  simp only [Bool.and_eq_true] at h
  obtain ⟨⟨⟨h1, h2⟩, h3⟩, h4⟩ := h
  refine ⟨⟨h1.1.1, h1.1.2, by simpa using h1.2⟩, fun i o ho e he hb => ?_, fun i hi j hj => ?_, fun i hi j hj => by
    have k := List.all_eq_true.1 (List.all_eq_true.1 h4 i (List.mem_range.2 hi)) j hj
    simpa using k⟩
  · have hlt : i < ops.length := (List.getElem?_eq_some_iff.1 ho).1
    have k := List.all_eq_true.1 h2 i (List.mem_range.2 hlt)
    rw [ho] at k
    simp only [Option.map_some, Option.getD_some, Array.all_eq_true_iff_forall_mem] at k
    have k2 := k e he
    rw [hb] at k2
    simpa using k2
  · have k := List.all_eq_true.1 (List.all_eq_true.1 h3 i (List.mem_range.2 hi)) j hj
    simp only [Bool.and_eq_true] at k
    refine ⟨by simpa using k.1, fun e he hc => ?_⟩
    have k2 := List.all_eq_true.1 k.2 e (List.mem_range.2 he)
    rw [hc] at k2
    simpa using k2
theorem FlowSteps.at {P : Program} {Q : Exit → Act → World → Prop} {ops : List Oper} {a : Act} {V : Nat → (Nat → Value) → World → Prop} {R : World → Prop} {needs eats olds : List (List Nat)} {ms : List Nat} {l : List Oper} {i k : Nat} {o : Oper}
    (h : FlowSteps P Q ops a V R needs eats olds ms i l) (ho : l[k]? = some o) : FlowStep P Q ops a V R needs eats olds ms (i + k) o := by
  induction l generalizing i k with
  | nil => simp at ho
  | cons x l ih =>
    cases k with
    | zero => simp only [List.getElem?_cons_zero, Option.some.injEq] at ho; subst ho; exact h.1
    | succ k => rw [show i + (k + 1) = i + 1 + k from by omega]; exact ih h.2 (by simpa using ho)
/-- how many are not listed -/
def left (n : Nat) (listed : Array Bool) : Nat := (List.range n).countP fun i => !(listed.getD i false)
theorem countP_less {α : Type} (p q : α → Bool) (l : List α) (hpq : ∀ x, q x = true → p x = true) (x : α) (hx : x ∈ l) (hp : p x = true) (hq : q x = false) : l.countP q + 1 ≤ l.countP p := by
  induction l with
  | nil => cases hx
  | cons y l ih =>
    rw [List.countP_cons, List.countP_cons]
    have hm : l.countP q ≤ l.countP p := List.countP_mono_left fun z _ hz => hpq z hz
    rcases List.mem_cons.1 hx with e | e
    · subst e
      rw [hp, hq]; simp; omega
    · have := ih e
      have hy : (if q y = true then 1 else 0) ≤ (if p y = true then 1 else 0) := by
        by_cases c : q y = true
        · rw [if_pos c, if_pos (hpq y c)]; omega
        · rw [if_neg c]; omega
      omega
theorem left_set {n : Nat} {listed : Array Bool} {i : Nat} (hi : i < n) (hs : listed.size = n) (h : listed.getD i false = false) : left n (listed.setIfInBounds i true) + 1 ≤ left n listed := by
  refine countP_less _ _ _ (fun x hx => ?_) i (List.mem_range.2 hi) (by rw [h]; rfl) ?_
  · by_cases c : i = x
    · subst c; rw [h]; rfl
    · rw [getD_set_ne false c] at hx; exact hx
  · simp [hs, hi]
theorem left_none {n : Nat} {listed : Array Bool} (h : left n listed = 0) : ∀ i, i < n → listed.getD i false = true := by
  intro i hi
  have := List.countP_eq_zero.1 h i (List.mem_range.2 hi)
  simpa using this
section
variable {P : Program} {Q : Exit → Act → World → Prop} {ops : List Oper} {a : Act} {V : Nat → (Nat → Value) → World → Prop} {R : World → Prop} {needs eats olds : List (List Nat)} {ms : List Nat}
theorem flow_any (hok : flowOk ops needs eats olds ms = true) (steps : FlowSteps P Q ops a V R needs eats olds ms 0 ops)
    (last : ∀ us v, R v → (∀ j, j < ops.length → (eats.all fun l => !(l.contains j)) = true → V j us v) → Q .normal (putAll ops us 0 a) v) :
    ∀ (fuel : Nat) (listed : Array Bool) (us : Nat → Value) (v : World), listed.size = ops.length → left ops.length listed ≤ fuel → Closed .any ops.toArray listed → R v →
      (∀ j, (ops.length ≤ j ∨ listed.getD j false = true) → (∀ e, e < ops.length → listed.getD e false = true → (eats.getD e []).contains j = false) → V j us v) →
      (∀ j, j < ops.length → listed.getD j false = false → us j = stood ops a j) →
      wpAny P .any ops.toArray Q fuel listed (putAll ops us 0 a) v := by
  obtain ⟨⟨hd, hmm, hml⟩, hback, hneed, hold⟩ := flowOk_parts hok
  have hend : ∀ (listed : Array Bool) (us : Nat → Value) (v : World), listed.size = ops.length → (∀ i, i < ops.length → listed.getD i false = true) → R v →
      (∀ j, (ops.length ≤ j ∨ listed.getD j false = true) → (∀ e, e < ops.length → listed.getD e false = true → (eats.getD e []).contains j = false) → V j us v) → Q .normal (putAll ops us 0 a) v := by
    intro listed us v _ hall hR hV
    refine last us v hR fun j hj he => hV j (.inr (hall j hj)) fun e _ _ => ?_
    rw [List.getD_eq_getElem?_getD]
    cases hg : eats[e]? with
    | none => rfl
    | some l =>
      have := List.all_eq_true.1 he l (List.mem_of_getElem? hg)
      simpa using this
  have hstuck : ∀ listed : Array Bool, listed.size = ops.length → Region.ready .any ops.toArray listed = [] → ∀ i, i < ops.length → listed.getD i false = true := by
    intro listed hs hr i
    induction i using Nat.strongRecOn with
    | _ i ih =>
      intro hi
      cases hl : listed.getD i false with
      | true => rfl
      | false =>
        exfalso
        have hm : i ∈ Region.ready .any ops.toArray listed := by
          refine mem_ready.2 ⟨?_, ops[i], by simp [hi], fun e he hb => ?_⟩
          · rw [Array.getD_eq_getD_getElem?] at hl ⊢
            rw [Array.getElem?_eq_getElem (by omega)] at hl ⊢
            exact hl
          · have hlt := hback i _ (List.getElem?_eq_getElem hi) e he hb
            exact ih e.on hlt (by omega)
        rw [hr] at hm; cases hm
  intro fuel
  induction fuel with
  | zero =>
    intro listed us v hs hc hcl hR hV _
    have hall := left_none (Nat.le_zero.1 hc)
    refine ⟨?_, hend listed us v hs hall hR hV⟩
    cases hr : Region.ready .any ops.toArray listed with
    | nil => rfl
    | cons i l =>
      exfalso
      have hm : i ∈ Region.ready .any ops.toArray listed := by rw [hr]; exact List.mem_cons_self
      obtain ⟨_, o, ho, _⟩ := mem_ready.1 hm
      have hi : i < ops.length := by simpa using (Array.getElem?_eq_some_iff.1 ho).1
      have := ready_off hm
      rw [hall i hi] at this; cases this
  | succ fuel ih =>
    intro listed us v hs hc hcl hR hV hO
    refine ⟨fun hr => hend listed us v hs (hstuck listed hs hr) hR hV, fun i hi => ?_⟩
    obtain ⟨_, o, ho, hall⟩ := mem_ready.1 hi
    have ho' : ops[i]? = some o := by simpa using ho
    have hlt : i < ops.length := (List.getElem?_eq_some_iff.1 ho').1
    have hoff := ready_off hi
    have hn : Need V us v (needs.getD i []) := by
      refine need_of fun j hj => ?_
      obtain ⟨k1, k2⟩ := hneed i hlt j hj
      refine hV j (k1.imp id fun k1 => hcl.readyB hmm hml hback k1 hi) fun e he hel => ?_
      cases hce : (eats.getD e []).contains j with
      | false => rfl
      | true =>
        exfalso
        rcases k2 e he hce with rfl | hw
        · rw [hoff] at hel; cases hel
        · rw [hcl.doneB hmm hml hback _ _ hw hel] at hoff; cases hoff
    have ho2 : Olds ops a us (olds.getD i []) := by
      refine olds_of fun j hj => ?_
      rcases hold i hlt j hj with rfl | ⟨hjn, hw⟩
      · exact hO j hlt hoff
      · refine hO j hjn ?_
        cases hl : listed.getD j false with
        | false => rfl
        | true => rw [hcl.doneB hmm hml hback _ _ hw hl] at hoff; cases hoff
    have st := steps.at ho'
    rw [Nat.zero_add] at st
    unfold wpOp
    rw [ho]
    simp only
    have key : ∀ u v', V i (upd us i u) v' → R v' → (∀ j, j ≠ i → (eats.getD i []).contains j = false → waitsB ms j i = false → (∀ e, e < ops.length → waitsB ms i e = true → (eats.getD e []).contains j = false) → V j us v → V j (upd us i u) v') → wpAny P .any ops.toArray Q fuel (listed.setIfInBounds i true) ((putAll ops us 0 a).put o.dst u) v' := by
      intro u v' hu hR' hst
      rw [putAll_upd ops us 0 a i o u hd ho', Nat.zero_add]
      refine ih _ _ _ (by simpa using hs) ?_ (hcl.set hi) hR' (fun j hj he => ?_) fun j hj hl => ?_
      · have := left_set hlt hs hoff; omega
      · by_cases e : j = i
        · subst e; exact hu
        · rw [getD_set_ne false (Ne.symm e)] at hj
          have hwf : waitsB ms j i = false := by
            cases hw : waitsB ms j i with
            | false => rfl
            | true =>
              exfalso
              rcases hj with hj | hj
              · have := waits_in hml hw; omega
              · rw [hcl.doneB hmm hml hback _ _ hw hj] at hoff; cases hoff
          refine hst j e (he i hlt (by simp [hs, hlt])) hwf (fun k hk hw => he k hk (getD_set_true (hcl.readyB hmm hml hback hw hi))) (hV j hj fun k hk hkl => he k hk (getD_set_true hkl))
      · by_cases e : j = i
        · subst e; simp [hs, hlt] at hl
        · unfold upd; rw [if_neg e]
          rw [getD_set_ne false (Ne.symm e)] at hl
          exact hO j hj hl
    have := st us v hR hn ho2 _ key
    by_cases hw : Region.wanted o (yielded ops.toArray (putAll ops us 0 a).tmps) = true
    · rw [if_pos hw] at this ⊢; exact .inl this
    · rw [if_neg hw] at this ⊢; exact this
/-- a region that draws its order, each operation once, in the text's order -/
theorem wp_region_flow {id : Nat} {w : World} (V : Nat → (Nat → Value) → World → Prop) (R : World → Prop) (needs eats olds : List (List Nat)) (ms : List Nat) (hm : P.follows .mixedOrders = true) (hok : flowOk ops needs eats olds ms = true) (h0 : R w.drew) (hstart : ∀ j, ops.length ≤ j → V j (stood ops a) w.drew)
    (steps : FlowSteps P Q ops a V R needs eats olds ms 0 ops)
    (last : ∀ us v, R v → (∀ j, j < ops.length → (eats.all fun l => !(l.contains j)) = true → V j us v) → Q .normal (putAll ops us 0 a) v) : (Code.region id ops.toArray true).wp P Q a w := by
  refine wp_region_any hm ?_
  have e : putAll ops (stood ops a) 0 a = a :=
    putAll_self _ _ _ _ fun k o d ho hd => by simp [stood, ho, hd]
  rw [← e]
  have hrep : ∀ i, (Array.replicate ops.length false).getD i false = false := fun i => by
    rw [Array.getD_eq_getD_getElem?, Array.getElem?_replicate]; split <;> rfl
  refine flow_any hok steps last _ _ _ _ (by simp) ?_ (fun j o ho hj => ?_) h0 (fun j hj => ?_) fun j _ _ => rfl
  · unfold left
    refine Nat.le_trans List.countP_le_length (by simp)
  · have := hrep j
    rw [show (Array.replicate ops.toArray.size false) = Array.replicate ops.length false from by simp] at hj
    rw [this] at hj; cases hj
  · rcases hj with hj | hj
    · intro _
      exact hstart j hj
    · have := hrep j
      rw [show (Array.replicate ops.toArray.size false) = Array.replicate ops.length false from by simp] at hj
      rw [this] at hj; cases hj

/-- a fact on a value alone, and on the world -/
def own (k : Nat) (F : Value → World → Prop) : (Nat → Value) → World → Prop := fun us v => F (us k) v
/-- this value, and no other -/
def only (k : Nat) (u : Value) : (Nat → Value) → World → Prop := fun us _ => us k = u
theorem only_mk {k : Nat} {x u : Value} {us : Nat → Value} {v : World} (h : x = u) : only k u (upd us k x) v := by unfold only upd; rw [if_pos rfl]; exact h
def factOf (Vs : List ((Nat → Value) → World → Prop)) (j : Nat) : (Nat → Value) → World → Prop := Vs.getD j fun _ _ => True
/-- a fact that no world ends -/
def Still (ms : List Nat) (j : Nat) (V : (Nat → Value) → World → Prop) : Prop := ∀ us v i u v', i ≠ j → waitsB ms j i = false → V us v → V (upd us i u) v'
theorem only_still {ms : List Nat} {j : Nat} (u : Value) : Still ms j (only j u) := fun us v i u' v' h _ k => by
  unfold only upd at *; rw [if_neg (Ne.symm h)]; exact k
theorem own_still {ms : List Nat} {j : Nat} {F : Value → World → Prop} (h : ∀ x v v', F x v → F x v') : Still ms j (own j F) := fun us v i u' v' hi _ k => by
  unfold own upd at *; rw [if_neg (Ne.symm hi)]; exact h _ _ _ k
/-- all facts but those of wd are such -/
def Stills (ms : List Nat) (wd : List Nat) : Nat → List ((Nat → Value) → World → Prop) → Prop
  | _, [] => True
  | i, V :: l => cond (wd.contains i) True (Still ms i V) ∧ Stills ms wd (i + 1) l
theorem true_still {ms : List Nat} {j : Nat} : Still ms j (fun _ _ => True) := fun _ _ _ _ _ _ _ h => h
theorem Stills.at {ms : List Nat} {wd : List Nat} {l : List ((Nat → Value) → World → Prop)} {i k : Nat} (h : Stills ms wd i l) (hw : wd.contains (i + k) = false) : Still ms (i + k) (l.getD k fun _ _ => True) := by
  induction l generalizing i k with
  | nil => exact true_still
  | cons V l ih =>
    cases k with
    | zero => have := h.1; rw [Nat.add_zero] at hw ⊢; rw [hw] at this; exact this
    | succ k => rw [show i + (k + 1) = i + 1 + k from by omega]; exact ih h.2 (by rw [show i + 1 + k = i + (k + 1) from by omega]; exact hw)
/-- what an operation leaves, of the facts that a world may end -/
def Keep (Vs : List ((Nat → Value) → World → Prop)) (us us' : Nat → Value) (v v' : World) : List Nat → Prop
  | [] => True
  | j :: l => (factOf Vs j us v → factOf Vs j us' v') ∧ Keep Vs us us' v v' l
theorem Keep.at {Vs : List ((Nat → Value) → World → Prop)} {us us' : Nat → Value} {v v' : World} {l : List Nat} (h : Keep Vs us us' v v' l) {j : Nat} (hj : j ∈ l) : factOf Vs j us v → factOf Vs j us' v' := by
  induction l with
  | nil => cases hj
  | cons k l ih =>
    rcases List.mem_cons.1 hj with e | e
    · subst e; exact h.1
    · exact ih h.2 e
/-- the lists of what is kept are full -/
def keepOk (ops : List Oper) (eats keeps : List (List Nat)) (wd ms : List Nat) : Bool :=
  (List.range ops.length).all fun i => wd.all fun j => j == i || (eats.getD i []).contains j || waitsB ms j i || (keeps.getD i []).contains j || (List.range ops.length).any fun e => waitsB ms i e && (eats.getD e []).contains j
/-- what is asked of the operation at place i, its frame written out -/
def FlowStepF (P : Program) (Q : Exit → Act → World → Prop) (ops : List Oper) (fr : (Nat → Value) → Act) (Vs : List ((Nat → Value) → World → Prop)) (R : World → Prop) (a : Act) (needs olds keeps : List (List Nat)) (i : Nat) (o : Oper) : Prop :=
  ∀ (us : Nat → Value) (v : World), R v → Need (factOf Vs) us v (needs.getD i []) → Olds ops a us (olds.getD i []) → ∀ K : Act → World → Prop,
    (∀ u v' b, b = (fr us).put o.dst u → factOf Vs i (upd us i u) v' → R v' → Keep Vs us (upd us i u) v v' (keeps.getD i []) → K b v') →
    if Region.wanted o (yielded ops.toArray (fr us).tmps) = true then Oper.wp P o (fr us) v K Q else K ((fr us).put o.dst undef) v
def FlowStepsF (P : Program) (Q : Exit → Act → World → Prop) (ops : List Oper) (fr : (Nat → Value) → Act) (Vs : List ((Nat → Value) → World → Prop)) (R : World → Prop) (a : Act) (needs olds keeps : List (List Nat)) : Nat → List Oper → Prop
  | _, [] => True
  | i, o :: l => FlowStepF P Q ops fr Vs R a needs olds keeps i o ∧ FlowStepsF P Q ops fr Vs R a needs olds keeps (i + 1) l
theorem FlowStepsF.plain {fr : (Nat → Value) → Act} {Vs : List ((Nat → Value) → World → Prop)} {keeps : List (List Nat)} {wd : List Nat} (hfr : ∀ us, putAll ops us 0 a = fr us) (hk : keepOk ops eats keeps wd ms = true) (hst : Stills ms wd 0 Vs) {l : List Oper} {i : Nat} (hl : i + l.length ≤ ops.length)
    (h : FlowStepsF P Q ops fr Vs R a needs olds keeps i l) : FlowSteps P Q ops a (factOf Vs) R needs eats olds ms i l := by
  obtain rfl : fr = fun us => putAll ops us 0 a := funext fun us => (hfr us).symm
  induction l generalizing i with
  | nil => trivial
  | cons o l ih =>
    simp only [List.length_cons] at hl
    refine ⟨fun us v hR hn ho K hK => h.1 us v hR hn ho K fun u v' b hb hV hR' hkp => ?_, ih (by omega) h.2⟩
    subst hb
    refine hK u v' hV hR' fun j hji he hw hd hx => ?_
    cases hc : wd.contains j with
    | false =>
      have hw2 : wd.contains (0 + j) = false := by rw [Nat.zero_add]; exact hc
      have k := hst.at hw2
      rw [Nat.zero_add] at k
      exact k us v i u v' (Ne.symm hji) hw hx
    | true =>
      have k := List.all_eq_true.1 (List.all_eq_true.1 hk i (List.mem_range.2 (by omega))) j (by simpa using hc)
      rw [he, hw, beq_eq_false_iff_ne.2 hji] at k
      have hno : ((List.range ops.length).any fun e => waitsB ms i e && (eats.getD e []).contains j) = false := by
        rw [List.any_eq_false]
        intro e he2
        cases hw2 : waitsB ms i e with
        | false => simp
        | true => rw [hd e (List.mem_range.1 he2) hw2]; simp
      rw [hno] at k
      simp only [Bool.or_false, Bool.false_or] at k
      exact hkp.at (by simpa using k) hx
theorem wp_flow {id : Nat} {w : World} (Vs : List ((Nat → Value) → World → Prop)) (R : World → Prop) (needs eats olds keeps : List (List Nat)) (wd ms : List Nat) (fr : (Nat → Value) → Act) (hfr : ∀ us, putAll ops us 0 a = fr us) (hm : P.follows .mixedOrders = true)
    (hok : flowOk ops needs eats olds ms = true) (hkeep : keepOk ops eats keeps wd ms = true) (hstill : Stills ms wd 0 Vs) (h0 : R w.drew) (hn : Vs.length ≤ ops.length + 1) (hstart : factOf Vs ops.length (stood ops a) w.drew)
    (steps : FlowStepsF P Q ops fr Vs R a needs olds keeps 0 ops)
    (last : ∀ us v, R v → (∀ j, j < ops.length → (eats.all fun l => !(l.contains j)) = true → factOf Vs j us v) → Q .normal (fr us) v) : (Code.region id ops.toArray true).wp P Q a w :=
  wp_region_flow (factOf Vs) R needs eats olds ms hm hok h0 (fun j hj => by
    rcases Nat.eq_or_lt_of_le hj with e | e
    · subst e; exact hstart
    · unfold factOf
      rw [List.getD_eq_getElem?_getD, List.getElem?_eq_none (by omega)]; trivial) (steps.plain hfr hkeep hstill (by omega)) fun us v hR h => by rw [hfr us]; exact last us v hR h
/-- the facts on some of them, from those on all -/
theorem need_last {V : Nat → (Nat → Value) → World → Prop} {us : Nat → Value} {v : World} (h : ∀ j, j < ops.length → (eats.all fun l => !(l.contains j)) = true → V j us v) (l : List Nat) (hl : (l.all fun j => decide (j < ops.length) && (eats.all fun l => !(l.contains j))) = true) : Need V us v l :=
  need_of fun j hj => by
    have := List.all_eq_true.1 hl j hj
    simp only [Bool.and_eq_true, decide_eq_true_eq] at this
    exact h j this.1 this.2
end
end Go.Proofs.YtihhflajkohibaaGreatDoor
