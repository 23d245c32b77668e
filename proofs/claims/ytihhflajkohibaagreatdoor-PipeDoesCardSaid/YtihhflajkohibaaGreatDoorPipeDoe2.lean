/- Layer 10: each act, of the pipe and of the reference, whatever its side. Conditions: both lie (Pic), few things are on their way. -/
import Derived.Test.YtihhflajkohibaaGreatDoorPipeDoe
import Derived.Test.YtihhflajkohibaaGreatDoorRefI
import Derived.Test.YtihhflajkohibaaGreatDoorGoMany
namespace Go.Proofs.YtihhflajkohibaaGreatDoor.Pipe
set_option linter.unusedSimpArgs false
set_option linter.unusedVariables false
set_option maxRecDepth 100000
open Go.RowKit
open Go.Proofs.YtihhflajkohibaaGreatDoor
open Go.Proofs.YtihhflajkohibaaGreatDoor.Link (LE Fr)
open Go.Proofs.YtihhflajkohibaaGreatDoor.Net (NS NetIs)
def onSide {α : Type} (n : Int) (f : Bool → α) (d : α) : α := if n = 0 then f false else if n = 1 then f true else d
theorem onSide_false {α : Type} (f : Bool → α) (d : α) : onSide 0 f d = f false := rfl
theorem onSide_true {α : Type} (f : Bool → α) (d : α) : onSide 1 f d = f true := rfl
theorem onSide_no {α : Type} {n : Int} (h : isSide n = false) (f : Bool → α) (d : α) : onSide n f d = d := by
  have hnn : ¬ (n = 0 ∨ n = 1) := fun h2 => by rw [isSide_iff.2 h2] at h; cases h
  unfold onSide; rw [if_neg (fun h => hnn (.inl h)), if_neg (fun h => hnn (.inr h))]
theorem onSide_all {α : Type} {Q : α → Prop} {n : Int} {f : Bool → α} {d : α} (hf : ∀ me, Q (f me)) (hd : Q d) : Q (onSide n f d) := by
  unfold onSide; split
  · exact hf false
  · split
    · exact hf true
    · exact hd
/-- a side's case -/
theorem on_side {n : Int} {Q : Int → Prop} (h0 : Q 0) (h1 : Q 1) (hn : isSide n = false → Q n) : Q n := by
  by_cases h : n = 0 ∨ n = 1
  · rcases h with rfl | rfl
    · exact h0
    · exact h1
  · refine hn ?_
    cases hs : isSide n
    · rfl
    · exact absurd (isSide_iff.1 hs) h
/-- what acts keep -/
structure Few (k : Nat) (s : PS) : Prop where
  short : Short s.n
  g : ∀ me, (s.g me).length ≤ k
  two : s.n.n = 2
  ok : s.n.Ok
theorem send_n (n : NS) (a b : Int) (s : ByteArray) : (n.send a b s).n = n.n := by unfold NS.send; split <;> rfl
theorem deliver_n (n : NS) (a b k : Int) : (n.deliver a b k).n = n.n := by unfold NS.deliver; split <;> rfl
theorem double_n (n : NS) (a b k : Int) : (n.double a b k).n = n.n := by
  unfold NS.double; split
  · exact send_n _ _ _ _
  · rfl
theorem flip_n (n : NS) (a b k x : Int) : (n.flip a b k x).n = n.n := by unfold NS.flip; split <;> rfl
theorem way_n (a b : Int) (w : NS × Nat) (f : Fr) : (way a b w f).1.n = w.1.n := by
  unfold way; split
  · exact send_n _ _ _ _
  · rfl
theorem ways_n (a b : Int) (l : List Fr) : ∀ w : NS × Nat, (ways a b w l).1.n = w.1.n := by
  induction l with
  | nil => intro w; rfl
  | cons f l ih => intro w; exact (ih (way a b w f)).trans (way_n a b w f)
theorem way_ok {a b : Int} {w : NS × Nat} (h : w.1.Ok) (f : Fr) : (way a b w f).1.Ok := by
  unfold way; split
  · exact h.send _ _ _
  · exact h
theorem ways_ok {a b : Int} (l : List Fr) : ∀ {w : NS × Nat}, w.1.Ok → (ways a b w l).1.Ok := by
  induction l with
  | nil => intro w h; exact h
  | cons f l ih => intro w h; exact ih (way_ok h f)
section
variable {k : Nat} {s : PS}
theorem Few.more (h : Few k s) : Few (k + 1) s := ⟨h.short, fun me => Nat.le_succ_of_le (h.g me), h.two, h.ok⟩
theorem Few.send (h : Few k s) (me : Bool) (b : ByteArray) : Few (k + 1) (s.send me b) := ⟨h.short, fun me => Nat.le_succ_of_le (h.g me), h.two, h.ok⟩
theorem Few.tick (h : Few k s) (me : Bool) : Few (k + 1) (s.tick me) := ⟨h.short, fun me => Nat.le_succ_of_le (h.g me), h.two, h.ok⟩
theorem Few.go (h : Few k s) (me : Bool) : Few (k + 1) (s.go me) := ⟨PS.short_go h.short, fun me => Nat.le_succ_of_le (h.g me), (ways_n _ _ _ _).trans h.two, ways_ok _ h.ok⟩
theorem Few.lose (h : Few k s) (me : Bool) (i : Int) : Few (k + 1) (s.lose me i) := ⟨PS.short_lose h.short i, fun me => Nat.le_succ_of_le (h.g me), (deliver_n _ _ _ _).trans h.two, h.ok.deliver _ _ _⟩
theorem Few.double (h : Few k s) (me : Bool) (i : Int) : Few (k + 1) (s.double me i) := ⟨PS.short_double h.short i, fun me => Nat.le_succ_of_le (h.g me), (double_n _ _ _ _).trans h.two, h.ok.double _ _ _⟩
theorem Few.flip (h : Few k s) (me : Bool) (i x : Int) : Few (k + 1) (s.flip me i x) := ⟨PS.short_flip h.short i x, fun me => Nat.le_succ_of_le (h.g me), (flip_n _ _ _ _ _).trans h.two, h.ok.flip _ _ _ _⟩
theorem Few.come (h : Few k s) (me : Bool) (i : Int) : Few (k + 1) (s.come me i) := by
  have h1 := h.lose me i
  unfold PS.come
  split
  · refine ⟨h1.short, up_all (P := fun l : List ByteArray => l.length ≤ k + 1) s.g me _ (fun me => Nat.le_succ_of_le (h.g me)) ?_, h1.two, h1.ok⟩
    split
    · have := h.g me
      show ((s.lose me i).g me ++ _).length ≤ _
      rw [List.length_append]; show (s.g me).length + 1 ≤ _; omega
    · exact Nat.le_succ_of_le (h.g me)
  · exact h1
/-- of a side that isn't there nothing is on its way -/
theorem Few.away (h : Few k s) {n a : Int} (hn : isSide n = false) (i : Int) : s.n.isAt a n i = false := by
  cases hk : s.n.isAt a n i
  · rfl
  · exfalso
    have hg := Net.NS.isAt_good h.ok hk
    have hnn : ¬ (n = 0 ∨ n = 1) := fun h2 => by rw [isSide_iff.2 h2] at hn; cases hn
    have h2 := h.two
    unfold NS.good at hg
    have hg := of_decide_eq_true hg
    omega
theorem Few.len (h : Few k s) (a b : Int) : (s.n.f a b).length ≤ 1000 := Nat.le_trans (h.ok.room a b) h.ok.m1000
end
theorem new_few (epoch first window queue wait room : Int) : Few 0 (new epoch first window queue wait room) := ⟨new_short _ _, fun _ => Nat.le_refl _, rfl, Net.new_ok _ _⟩
section
variable {w0 w : World} {p b c k K : Nat} {a : Act10} {s t : PS} {M : RM} {F : List Nat}
theorem Pic.same (h : Pic w0 p b c a s t M K F w) {f : FuncId} {args : Array Value} {v : Value} (q : Calls Tryz.prog f args w fun e w' => e = .returned v ∧ w = w') : Calls Tryz.prog f args w fun e w' => e = .returned v ∧ ∃ F', Pic w0 p b c a s t M K F' w' := by
  refine q.mono ?_
  rintro e w' ⟨rfl, rfl⟩
  exact ⟨rfl, F, h⟩
theorem RefSaid.more {J : Nat} {f : Value → Value} {e : Ending} {w' : World} (h : RefSaid w M s K f e w') (hJ : K ≤ J) : RefSaid w M s J f e w' := by
  obtain ⟨M', h1, h2, h3, h4⟩ := h
  exact ⟨M', h1, h2.more hJ, h3, h4⟩
theorem send_does (h : Pic w0 p b c a s t M K F w) (n : Int) (x : ByteArray) : Calls Tryz.prog 8 #[.pointer (some ⟨p, 0, none⟩), .int .i64 n, .string x] w fun e w' => e = .returned (.int .i64 (onSide n (fun me => (s.e me).sendE x) 100)) ∧ ∃ F', Pic w0 p b c a (onSide n (fun me => s.send me x) s) t M K F' w' := by
  refine on_side (n := n) (Q := fun n => Calls Tryz.prog 8 #[.pointer (some ⟨p, 0, none⟩), .int .i64 n, .string x] w fun e w' => e = .returned (.int .i64 (onSide n (fun me => (s.e me).sendE x) 100)) ∧ ∃ F', Pic w0 p b c a (onSide n (fun me => s.send me x) s) t M K F' w') ?_ ?_ fun hn => ?_
  · exact h.does (send_yes h.is h.env.le false x)
  · exact h.does (send_yes h.is h.env.le true x)
  · simp only [onSide_no hn]
    exact h.same (send_no _ n hn x w)
theorem go_does (h : Pic w0 p b c a s t M K F w) (n : Int) : Calls Tryz.prog 10 #[.pointer (some ⟨p, 0, none⟩), .int .i64 n] w fun e w' => e = .returned (.int .i64 (onSide n (fun me => ((s.gone me).2 : Int)) 0)) ∧ ∃ F', Pic w0 p b c a (onSide n (fun me => s.go me) s) t M K F' w' := by
  refine on_side (n := n) (Q := fun n => Calls Tryz.prog 10 #[.pointer (some ⟨p, 0, none⟩), .int .i64 n] w fun e w' => e = .returned (.int .i64 (onSide n (fun me => ((s.gone me).2 : Int)) 0)) ∧ ∃ F', Pic w0 p b c a (onSide n (fun me => s.go me) s) t M K F' w') ?_ ?_ fun hn => ?_
  · exact h.does (go_yes h.is h.env false)
  · exact h.does (go_yes h.is h.env true)
  · simp only [onSide_no hn]
    exact h.same (go_no _ n hn w)
theorem tick_does (h : Pic w0 p b c a s t M K F w) (n : Int) : Calls Tryz.prog 12 #[.pointer (some ⟨p, 0, none⟩), .int .i64 n] w fun e w' => e = .returned (.tuple #[]) ∧ ∃ F', Pic w0 p b c a (onSide n (fun me => s.tick me) s) t M K F' w' := by
  refine on_side (n := n) (Q := fun n => Calls Tryz.prog 12 #[.pointer (some ⟨p, 0, none⟩), .int .i64 n] w fun e w' => e = .returned (.tuple #[]) ∧ ∃ F', Pic w0 p b c a (onSide n (fun me => s.tick me) s) t M K F' w') ?_ ?_ fun hn => ?_
  · exact h.does (tick_yes h.is h.env.le false)
  · exact h.does (tick_yes h.is h.env.le true)
  · simp only [onSide_no hn]
    exact h.same (tick_no _ n hn w)
theorem come_does (h : Pic w0 p b c a s t M K F w) (hs : Few k s) (hk : k ≤ 1000) (n : Int) (i : Int) : Calls Tryz.prog 14 #[.pointer (some ⟨p, 0, none⟩), .int .i64 n, .int .i64 i] w fun e w' => e = .returned (.tuple #[.string (onSide n (fun me => s.comeS me i) ⟨#[]⟩), .bool (onSide n (fun me => s.comeB me i) false)]) ∧ ∃ F', Pic w0 p b c a (onSide n (fun me => s.come me i) s) t M K F' w' := by
  refine on_side (n := n) (Q := fun n => Calls Tryz.prog 14 #[.pointer (some ⟨p, 0, none⟩), .int .i64 n, .int .i64 i] w fun e w' => e = .returned (.tuple #[.string (onSide n (fun me => s.comeS me i) ⟨#[]⟩), .bool (onSide n (fun me => s.comeB me i) false)]) ∧ ∃ F', Pic w0 p b c a (onSide n (fun me => s.come me i) s) t M K F' w') ?_ ?_ fun hn => ?_
  · exact h.does (come_yes h.is h.env hs.short false (Nat.le_trans (hs.g _) (by omega)) i)
  · exact h.does (come_yes h.is h.env hs.short true (Nat.le_trans (hs.g _) (by omega)) i)
  · simp only [onSide_no hn]
    exact h.same (come_no _ n hn i w)
theorem lose_does (h : Pic w0 p b c a s t M K F w) (n : Int) (i : Int) : Calls Tryz.prog 16 #[.pointer (some ⟨p, 0, none⟩), .int .i64 n, .int .i64 i] w fun e w' => e = .returned (.bool (onSide n (fun me => s.has me i) false)) ∧ ∃ F', Pic w0 p b c a (onSide n (fun me => s.lose me i) s) t M K F' w' := by
  refine on_side (n := n) (Q := fun n => Calls Tryz.prog 16 #[.pointer (some ⟨p, 0, none⟩), .int .i64 n, .int .i64 i] w fun e w' => e = .returned (.bool (onSide n (fun me => s.has me i) false)) ∧ ∃ F', Pic w0 p b c a (onSide n (fun me => s.lose me i) s) t M K F' w') ?_ ?_ fun hn => ?_
  · exact h.does (lose_yes h.is h.env.le false i)
  · exact h.does (lose_yes h.is h.env.le true i)
  · simp only [onSide_no hn]
    exact h.same (lose_no _ n hn i w)
theorem double_does (h : Pic w0 p b c a s t M K F w) (n : Int) (i : Int) : Calls Tryz.prog 18 #[.pointer (some ⟨p, 0, none⟩), .int .i64 n, .int .i64 i] w fun e w' => e = .returned (.bool (onSide n (fun me => s.doubleOk me i) false)) ∧ ∃ F', Pic w0 p b c a (onSide n (fun me => s.double me i) s) t M K F' w' := by
  refine on_side (n := n) (Q := fun n => Calls Tryz.prog 18 #[.pointer (some ⟨p, 0, none⟩), .int .i64 n, .int .i64 i] w fun e w' => e = .returned (.bool (onSide n (fun me => s.doubleOk me i) false)) ∧ ∃ F', Pic w0 p b c a (onSide n (fun me => s.double me i) s) t M K F' w') ?_ ?_ fun hn => ?_
  · exact h.does (double_yes h.is h.env.le false i)
  · exact h.does (double_yes h.is h.env.le true i)
  · simp only [onSide_no hn]
    exact h.same (double_no _ n hn i w)
theorem flip_does (h : Pic w0 p b c a s t M K F w) (hs : Few k s) (n : Int) (i x : Int) : Calls Tryz.prog 20 #[.pointer (some ⟨p, 0, none⟩), .int .i64 n, .int .i64 i, .int .i64 x] w fun e w' => e = .returned (.bool (onSide n (fun me => s.flipOk me i) false)) ∧ ∃ F', Pic w0 p b c a (onSide n (fun me => s.flip me i x) s) t M K F' w' := by
  refine on_side (n := n) (Q := fun n => Calls Tryz.prog 20 #[.pointer (some ⟨p, 0, none⟩), .int .i64 n, .int .i64 i, .int .i64 x] w fun e w' => e = .returned (.bool (onSide n (fun me => s.flipOk me i) false)) ∧ ∃ F', Pic w0 p b c a (onSide n (fun me => s.flip me i x) s) t M K F' w') ?_ ?_ fun hn => ?_
  · exact h.does (flip_yes h.is h.env.le false i x (Nat.le_trans (hs.short.look _ _ _) (by omega)))
  · exact h.does (flip_yes h.is h.env.le true i x (Nat.le_trans (hs.short.look _ _ _) (by omega)))
  · simp only [onSide_no hn]
    exact h.same (flip_no _ n hn i x w)
end
section
variable {w : World} {k K : Nat} {s : PS} {M : RM}
theorem rsend_does (h : RIs w M s K) (hK : K ≤ 800) (hs : Few k s) (n : Int) (x : ByteArray) : Calls Tryz.prog 9 #[.agg (M.rc s).all, .int .i64 n, .string x] w (RefSaid w M (onSide n (fun me => s.send me x) s) (K + 9) (fun v => .tuple #[v, .int .i64 (onSide n (fun me => (s.e me).sendE x) 100)])) := by
  refine on_side (n := n) (Q := fun n => Calls Tryz.prog 9 #[.agg (M.rc s).all, .int .i64 n, .string x] w (RefSaid w M (onSide n (fun me => s.send me x) s) (K + 9) (fun v => .tuple #[v, .int .i64 (onSide n (fun me => (s.e me).sendE x) 100)]))) ?_ ?_ fun hn => ?_
  · exact (ref_send_false h x).mono fun _ _ q => q.more (by omega)
  · exact (ref_send_true h x).mono fun _ _ q => q.more (by omega)
  · simp only [onSide_no hn]
    exact (ref_send_no h n hn x).mono fun _ _ q => q.more (by omega)
theorem rgo_does (h : RIs w M s K) (hK : K ≤ 800) (hs : Few k s) (n : Int) : Calls Tryz.prog 11 #[.agg (M.rc s).all, .int .i64 n] w (RefSaid w M (onSide n (fun me => s.go me) s) (K + 9) (fun v => .tuple #[v, .int .i64 (onSide n (fun me => ((s.gone me).2 : Int)) 0)])) := by
  refine on_side (n := n) (Q := fun n => Calls Tryz.prog 11 #[.agg (M.rc s).all, .int .i64 n] w (RefSaid w M (onSide n (fun me => s.go me) s) (K + 9) (fun v => .tuple #[v, .int .i64 (onSide n (fun me => ((s.gone me).2 : Int)) 0)]))) ?_ ?_ fun hn => ?_
  · exact (ref_go_false h hK).mono fun _ _ q => q.more (by omega)
  · exact (ref_go_true h hK).mono fun _ _ q => q.more (by omega)
  · simp only [onSide_no hn]
    exact (ref_go_no h n hn).mono fun _ _ q => q.more (by omega)
theorem rtick_does (h : RIs w M s K) (hK : K ≤ 800) (hs : Few k s) (n : Int) : Calls Tryz.prog 13 #[.agg (M.rc s).all, .int .i64 n] w (RefSaid w M (onSide n (fun me => s.tick me) s) (K + 9) (fun v => v)) := by
  refine on_side (n := n) (Q := fun n => Calls Tryz.prog 13 #[.agg (M.rc s).all, .int .i64 n] w (RefSaid w M (onSide n (fun me => s.tick me) s) (K + 9) (fun v => v))) ?_ ?_ fun hn => ?_
  · exact (ref_tick_false h).mono fun _ _ q => q.more (by omega)
  · exact (ref_tick_true h).mono fun _ _ q => q.more (by omega)
  · simp only [onSide_no hn]
    exact (ref_tick_no h n hn).mono fun _ _ q => q.more (by omega)
theorem rcome_does (h : RIs w M s K) (hK : K ≤ 800) (hs : Few k s) (hk : k ≤ 1000) (n : Int) (i : Int) : Calls Tryz.prog 15 #[.agg (M.rc s).all, .int .i64 n, .int .i64 i] w (RefSaid w M (onSide n (fun me => s.come me i) s) (K + 9) (fun v => .tuple #[v, .string (onSide n (fun me => s.comeS me i) ⟨#[]⟩), .bool (onSide n (fun me => s.comeB me i) false)])) := by
  refine on_side (n := n) (Q := fun n => Calls Tryz.prog 15 #[.agg (M.rc s).all, .int .i64 n, .int .i64 i] w (RefSaid w M (onSide n (fun me => s.come me i) s) (K + 9) (fun v => .tuple #[v, .string (onSide n (fun me => s.comeS me i) ⟨#[]⟩), .bool (onSide n (fun me => s.comeB me i) false)]))) ?_ ?_ fun hn => ?_
  · exact (ref_come_false h (by omega) hs.short (Nat.le_trans (hs.g _) (by omega)) i).mono fun _ _ q => q.more (by omega)
  · exact (ref_come_true h (by omega) hs.short (Nat.le_trans (hs.g _) (by omega)) i).mono fun _ _ q => q.more (by omega)
  · simp only [onSide_no hn]
    exact (ref_come_no h (by omega) n hn i).mono fun _ _ q => q.more (by omega)
theorem rlose_does (h : RIs w M s K) (hK : K ≤ 800) (hs : Few k s) (n : Int) (i : Int) : Calls Tryz.prog 17 #[.agg (M.rc s).all, .int .i64 n, .int .i64 i] w (RefSaid w M (onSide n (fun me => s.lose me i) s) (K + 9) (fun v => .tuple #[v, .bool (onSide n (fun me => s.has me i) false)])) := by
  refine on_side (n := n) (Q := fun n => Calls Tryz.prog 17 #[.agg (M.rc s).all, .int .i64 n, .int .i64 i] w (RefSaid w M (onSide n (fun me => s.lose me i) s) (K + 9) (fun v => .tuple #[v, .bool (onSide n (fun me => s.has me i) false)]))) ?_ ?_ fun hn => ?_
  · exact (ref_lose h (by omega) 0 1 i (by decide)).mono fun _ _ q => q.more (by omega)
  · exact (ref_lose h (by omega) 1 0 i (by decide)).mono fun _ _ q => q.more (by omega)
  · simp only [onSide_no hn]
    have q := ref_lose h (by omega) n _ i rfl
    have e1 := hs.away hn (a := IntKind.i64.wrap (1 - n)) i
    rw [show s.n.deliver (IntKind.i64.wrap (1 - n)) n i = s.n from by unfold NS.deliver; rw [e1]; rfl] at q
    rw [e1] at q
    exact q.mono fun _ _ q => q.more (by omega)
theorem rdouble_does (h : RIs w M s K) (hK : K ≤ 800) (hs : Few k s) (n : Int) (i : Int) : Calls Tryz.prog 19 #[.agg (M.rc s).all, .int .i64 n, .int .i64 i] w (RefSaid w M (onSide n (fun me => s.double me i) s) (K + 9) (fun v => .tuple #[v, .bool (onSide n (fun me => s.doubleOk me i) false)])) := by
  refine on_side (n := n) (Q := fun n => Calls Tryz.prog 19 #[.agg (M.rc s).all, .int .i64 n, .int .i64 i] w (RefSaid w M (onSide n (fun me => s.double me i) s) (K + 9) (fun v => .tuple #[v, .bool (onSide n (fun me => s.doubleOk me i) false)]))) ?_ ?_ fun hn => ?_
  · exact (ref_double h (by omega) 0 1 i (by decide)).mono fun _ _ q => q.more (by omega)
  · exact (ref_double h (by omega) 1 0 i (by decide)).mono fun _ _ q => q.more (by omega)
  · simp only [onSide_no hn]
    have q := ref_double h (by omega) n _ i rfl
    have e1 := hs.away hn (a := IntKind.i64.wrap (1 - n)) i
    rw [show s.n.double (IntKind.i64.wrap (1 - n)) n i = s.n from by unfold NS.double; rw [e1]; rfl] at q
    rw [show s.n.doubleOk (IntKind.i64.wrap (1 - n)) n i = false from by unfold NS.doubleOk; rw [e1]; rfl] at q
    exact q.mono fun _ _ q => q.more (by omega)
theorem rflip_does (h : RIs w M s K) (hK : K ≤ 800) (hs : Few k s) (n : Int) (i x : Int) (hb1 : -9223372036854775808 ≤ x) (hb2 : x ≤ 9223372036854775807) : Calls Tryz.prog 21 #[.agg (M.rc s).all, .int .i64 n, .int .i64 i, .int .i64 x] w (RefSaid w M (onSide n (fun me => s.flip me i x) s) (K + 9) (fun v => .tuple #[v, .bool (onSide n (fun me => s.flipOk me i) false)])) := by
  refine on_side (n := n) (Q := fun n => Calls Tryz.prog 21 #[.agg (M.rc s).all, .int .i64 n, .int .i64 i, .int .i64 x] w (RefSaid w M (onSide n (fun me => s.flip me i x) s) (K + 9) (fun v => .tuple #[v, .bool (onSide n (fun me => s.flipOk me i) false)]))) ?_ ?_ fun hn => ?_
  · exact (ref_flip h (by omega) 0 1 i x hb1 hb2 (Nat.le_trans (hs.short.look _ _ _) (by omega)) (by decide)).mono fun _ _ q => q.more (by omega)
  · exact (ref_flip h (by omega) 1 0 i x hb1 hb2 (Nat.le_trans (hs.short.look _ _ _) (by omega)) (by decide)).mono fun _ _ q => q.more (by omega)
  · simp only [onSide_no hn]
    have q := ref_flip h (by omega) n _ i x hb1 hb2 (Nat.le_trans (hs.short.look _ _ _) (by omega)) rfl
    have e1 := hs.away hn (a := IntKind.i64.wrap (1 - n)) i
    rw [show s.n.flip (IntKind.i64.wrap (1 - n)) n i x = s.n from by unfold NS.flip NS.flipOk; rw [e1]; rfl] at q
    rw [show s.n.flipOk (IntKind.i64.wrap (1 - n)) n i = false from by unfold NS.flipOk; rw [e1]; rfl] at q
    exact q.mono fun _ _ q => q.more (by omega)
end
end Go.Proofs.YtihhflajkohibaaGreatDoor.Pipe
