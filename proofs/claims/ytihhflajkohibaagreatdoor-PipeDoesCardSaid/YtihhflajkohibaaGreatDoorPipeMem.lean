/- Layer 10: a pipe in memory: two ends, what each was told, and a net, all apart from each other. No function of the program. -/
import Derived.Test.YtihhflajkohibaaGreatDoorPipePlain
import Derived.Test.YtihhflajkohibaaGreatDoorFrameY
import Derived.Test.YtihhflajkohibaaGreatDoorLkMany
import Derived.Test.YtihhflajkohibaaGreatDoorNetFlip
import Derived.Test.YtihhflajkohibaaGreatDoorSep
import Derived.Test.YtihhflajkohibaaGreatDoorFlow
import Derived.Test.YtihhflajkohibaaGreatDoorWhole
namespace Go.Proofs.YtihhflajkohibaaGreatDoor.Pipe
set_option linter.unusedSimpArgs false
set_option linter.unusedVariables false
set_option maxRecDepth 100000
open Go.RowKit
open Go.Proofs.YtihhflajkohibaaGreatDoor
open Go.Proofs.YtihhflajkohibaaGreatDoor.Link (LE Fr EndIs)
open Go.Proofs.YtihhflajkohibaaGreatDoor.Net (NS NetIs)
/-- where a slice stands -/
structure Arr where
  A : Option Addr
  c : Nat
  F : List Nat
structure PM where
  e : Bool → Nat
  F : Bool → List Nat
  g : Bool → Arr
  q : Nat
  G : List Nat
def sl (a : Arr) (n : Nat) : Value := .slice a.A n a.c
def PM.cells (M : PM) (s : PS) : Array Value := #[.pointer (some ⟨M.e false, 0, none⟩), .pointer (some ⟨M.e true, 0, none⟩), sl (M.g false) (s.g false).length, sl (M.g true) (s.g true).length, .pointer (some ⟨M.q, 0, none⟩)]
def endT (p : Nat) (F : List Nat) (x : LE) : Thing := ⟨fun w => EndIs w p F x, F⟩
theorem endT_local (p : Nat) (F : List Nat) (x : LE) : (endT p F x).Local := ⟨fun _ h _ hk => EndIs.lt h hk, fun _ _ h hs hb => EndIs.keep h hs hb⟩
def netT (q : Nat) (G : List Nat) (n : NS) : Thing := ⟨fun w => NetIs w q G n, G⟩
theorem netT_local (q : Nat) (G : List Nat) (n : NS) : (netT q G n).Local := ⟨fun _ h _ hk => NetIs.lt h hk, fun _ _ h _ hb => NetIs.keep h hb⟩
def txT (a : Arr) (l : List ByteArray) : Thing := vecT a.F 1 a.A l.length a.c (l.map .string)
def frT (a : Arr) (l : List Fr) : Thing := vecT a.F 5 a.A l.length a.c (l.flatMap Fr.cells)
theorem txT_local (a : Arr) (l : List ByteArray) : (txT a l).Local := vecT_local _ _ _ _ _ _
theorem frT_local (a : Arr) (l : List Fr) : (frT a l).Local := vecT_local _ _ _ _ _ _
/-- a block -/
def boxT (g : Nat) (cs : Array Value) (ty : TypeId) : Thing := ⟨fun w => w.heap[g]? = some (.cells cs ty (0, 0)), [g]⟩
theorem boxT_local (g : Nat) (cs : Array Value) (ty : TypeId) : (boxT g cs ty).Local := ⟨fun w h k hk => by simp [boxT] at hk; subst hk; exact lt_of_block h, fun w w' h _ hb => (hb g (by simp [boxT])).trans h⟩
def things (M : PM) (p : Nat) (s : PS) : List Thing := [boxT p (M.cells s) 70, endT (M.e false) (M.F false) (s.e false), endT (M.e true) (M.F true) (s.e true), txT (M.g false) (s.g false), txT (M.g true) (s.g true), netT M.q M.G s.n]
/-- all blocks of some things -/
def flat (l : List Thing) : List Nat := l.flatMap (·.F)
theorem flat_mem {l : List Thing} {k : Nat} : k ∈ flat l ↔ ∃ o, o ∈ l ∧ k ∈ o.F := by simp [flat]
theorem flat_turn {l : List Thing} {i : Nat} {o o' : Thing} {w w' : World} (hi : l[i]? = some o) (ht : Turns o.F o'.F w w') : Turns (flat l) (flat (l.set i o')) w w' := by
  refine ⟨ht.kept.mono fun k hk => flat_mem.2 ⟨o, List.mem_of_getElem? hi, hk⟩, fun k hk => ?_⟩
  obtain ⟨n, hn, hkn⟩ := flat_mem.1 hk
  rcases List.mem_or_eq_of_mem_set hn with hn | rfl
  · exact .inl (flat_mem.2 ⟨n, hn, hkn⟩)
  · exact (ht.new k hkn).imp (fun h => flat_mem.2 ⟨o, List.mem_of_getElem? hi, h⟩) id
def PipeIs (B : Nat) (w : World) (p : Nat) (F : List Nat) (s : PS) : Prop := ∃ M, F = flat (things M p s) ∧ Sep B w (things M p s)
theorem Sep.lower {B C : Nat} {w : World} {l : List Thing} (h : Sep B w l) (hC : C ≤ B) : Sep C w l := by
  induction h with
  | nil => exact .nil
  | cons o l h loc new ap r ih => exact .cons o l h loc (fun k hk => Nat.le_trans hC (new k hk)) ap ih
def pipeT (B p : Nat) (F : List Nat) (s : PS) : Thing := ⟨fun w => PipeIs B w p F s, F⟩
section
variable {B : Nat} {w w' : World} {p : Nat} {F : List Nat} {s : PS}
theorem PipeIs.mem (h : PipeIs B w p F s) : p ∈ F := by
  obtain ⟨M, rfl, h⟩ := h; exact flat_mem.2 ⟨_, .head _, by simp [boxT]⟩
theorem PipeIs.lt (h : PipeIs B w p F s) {k : Nat} (hk : k ∈ F) : k < w.heap.size := by
  obtain ⟨M, rfl, h⟩ := h
  obtain ⟨o, ho, hk⟩ := flat_mem.1 hk
  exact h.lt ho hk
theorem PipeIs.new (h : PipeIs B w p F s) : ∀ k, k ∈ F → B ≤ k := by
  obtain ⟨M, rfl, h⟩ := h
  intro k hk
  obtain ⟨o, ho, hk⟩ := flat_mem.1 hk
  exact (h.all o ho).2.2 k hk
theorem PipeIs.keep (h : PipeIs B w p F s) (hs : w.heap.size ≤ w'.heap.size) (hb : ∀ k, k ∈ F → w'.heap[k]? = w.heap[k]?) : PipeIs B w' p F s := by
  obtain ⟨M, rfl, h⟩ := h
  exact ⟨M, rfl, h.keep hs fun o ho k hk => hb k (flat_mem.2 ⟨o, ho, hk⟩)⟩
theorem PipeIs.after (h : PipeIs B w p F s) (hb : Below w.heap.size w w') : PipeIs B w' p F s := h.keep hb.size fun k hk => hb.block k (h.lt hk)
theorem PipeIs.under (h : PipeIs B w p F s) (hB : B ≤ w.heap.size) {F' : List Nat} (ht : Turns F F' w w') : Below B w w' := (ht.below hB h.new).1
theorem PipeIs.endOk (h : PipeIs B w p F s) (me : Bool) : (s.e me).Ok := by
  obtain ⟨M, rfl, h⟩ := h
  cases me
  · exact EndIs.ok (h.at 1 rfl)
  · exact EndIs.ok (h.at 2 rfl)
theorem PipeIs.netOk (h : PipeIs B w p F s) : s.n.Ok := by
  obtain ⟨M, rfl, h⟩ := h
  exact NetIs.ok (h.at 5 rfl)
theorem pipeT_local (B p : Nat) (F : List Nat) (s : PS) : (pipeT B p F s).Local := ⟨fun _ h _ hk => PipeIs.lt h hk, fun _ _ h hs hb => PipeIs.keep h hs hb⟩
end
/-- the variables of the program that are read: they lie below all else -/
structure Env (B : Nat) (w : World) : Prop where
  tab : TabAt w
  err : Frame.ErrAt w
  t : 1 < B
  e : 0 < B
  le : B ≤ w.heap.size
theorem Env.below {B : Nat} {w w' : World} (h : Env B w) (hb : Below B w w') : Env B w' := ⟨h.tab.below hb h.t, h.err.below hb h.e, h.t, h.e, Nat.le_trans h.le hb.size⟩
theorem Env.of {w : World} (h : TabAt w) (k : Frame.ErrAt w) : Env w.heap.size w := ⟨h, k, h.pos, k.pos, Nat.le_refl _⟩
/-- what an act answers, and the pipe behind it -/
def ActP (B : Nat) (w : World) (p : Nat) (F : List Nat) (s : PS) (v : Value) (e : Ending) (w' : World) : Prop := e = .returned v ∧ ∃ F', PipeIs B w' p F' s ∧ Turns F F' w w'
section
variable {B : Nat} {M : PM} {w w' : World} {p : Nat} {s : PS} (me : Bool)
theorem cells_e (M : PM) (s : PS) (me : Bool) : (M.cells s)[me.toNat]? = some (.pointer (some ⟨M.e me, 0, none⟩)) := by cases me <;> rfl
theorem cells_g (M : PM) (s : PS) (me : Bool) : (M.cells s)[2 + me.toNat]? = some (sl (M.g me) (s.g me).length) := by cases me <;> rfl
theorem set_g (M : PM) (s : PS) (me : Bool) (a : Arr) (l : List ByteArray) : (M.cells s).setIfInBounds (2 + me.toNat) (sl a l.length) = ({ M with g := up M.g me a } : PM).cells { s with g := up s.g me l } := by cases me <;> rfl
variable {X : List Thing}
theorem things_e : (things M p s ++ X)[1 + me.toNat]? = some (endT (M.e me) (M.F me) (s.e me)) := by cases me <;> rfl
theorem things_g : (things M p s ++ X)[3 + me.toNat]? = some (txT (M.g me) (s.g me)) := by cases me <;> rfl
theorem things_n : (things M p s ++ X)[5]? = some (netT M.q M.G s.n) := rfl
/-- a pipe, and things besides -/
def Lay (B : Nat) (M : PM) (p : Nat) (s : PS) (X : List Thing) (w : World) : Prop := Sep B w (things M p s ++ X)
theorem Lay.e (h : Lay B M p s X w) : EndIs w (M.e me) (M.F me) (s.e me) := Sep.at h _ (things_e me)
theorem Lay.g (h : Lay B M p s X w) : Vec w (M.g me).F 1 (M.g me).A (s.g me).length (M.g me).c ((s.g me).map .string) := Sep.at h _ (things_g me)
theorem Lay.n (h : Lay B M p s X w) : NetIs w M.q M.G s.n := Sep.at h 5 things_n
theorem Lay.box (h : Lay B M p s X w) : w.heap[p]? = some (.cells (M.cells s) 70 (0, 0)) := Sep.at h 0 rfl
theorem Lay.x (h : Lay B M p s X w) (j : Nat) {o : Thing} (hj : X[j]? = some o) : o.P w := Sep.at h (6 + j) (by
  rw [List.getElem?_append_right (by simp [things])]; simpa [things] using hj)
theorem Lay.after (h : Lay B M p s X w) (hb : Below w.heap.size w w') : Lay B M p s X w' := Sep.after h hb
theorem Lay.drewN (h : Lay B M p s X w) (n : Nat) : Lay B M p s X (w.drewN n) := Sep.drewN h n
variable {me}
/-- a pipe that stood so turned to one that stands so -/
structure Step (B : Nat) (M : PM) (p : Nat) (s : PS) (X : List Thing) (w : World) (M' : PM) (s' : PS) (w' : World) : Prop where
  lay : Lay B M' p s' X w'
  turns : Turns (flat (things M p s)) (flat (things M' p s')) w w'
  below : Below B w w'
theorem turn_at {i : Nat} {o o' : Thing} {M' : PM} {s' : PS} (h : Lay B M p s X w) (hB : B ≤ w.heap.size) (hi : (things M p s)[i]? = some o) (h' : o'.P w') (loc : o'.Local) (ht : Turns o.F o'.F w w') (e : (things M p s).set i o' = things M' p s') : Step B M p s X w M' s' w' := by
  have hlt : i < (things M p s).length := (List.getElem?_eq_some_iff.1 hi).1
  have hi2 : (things M p s ++ X)[i]? = some o := by rw [List.getElem?_append_left hlt]; exact hi
  refine ⟨?_, ?_, Sep.under h hB (List.mem_of_getElem? hi2) ht⟩
  · have k := Sep.turn h hB i hi2 h' loc ht
    rw [List.set_append_left _ _ hlt, e] at k
    exact k
  · have k := flat_turn hi ht
    rw [e] at k
    exact k
theorem Step.trans {M2 M3 : PM} {s2 s3 : PS} {w2 w3 : World} (h : Step B M p s X w M2 s2 w2) (k : Step B M2 p s2 X w2 M3 s3 w3) : Step B M p s X w M3 s3 w3 := ⟨k.lay, h.turns.trans k.turns, h.below.trans k.below⟩
theorem Step.refl (h : Lay B M p s X w) : Step B M p s X w M s w := ⟨h, Turns.refl _ _, Below.refl _ _⟩
theorem Step.after {M2 : PM} {s2 : PS} {w2 w3 : World} (h : Step B M p s X w M2 s2 w2) (hB : B ≤ w.heap.size) (hb : Below w2.heap.size w2 w3) : Step B M p s X w M2 s2 w3 := ⟨h.lay.after hb, h.turns.trans (Turns.of_below hb _), h.below.trans (hb.mono (Nat.le_trans hB h.below.size))⟩
theorem Step.is {M2 : PM} {s2 : PS} {w2 : World} (h : Step B M p s [] w M2 s2 w2) (v : Value) : ActP B w p (flat (things M p s)) s2 v (.returned v) w2 := ⟨rfl, _, ⟨M2, rfl, by have := h.lay; unfold Lay at this; rwa [List.append_nil] at this⟩, h.turns⟩
theorem PipeIs.lay {F : List Nat} (h : PipeIs B w p F s) : ∃ M, F = flat (things M p s) ∧ Lay B M p s [] w := by
  obtain ⟨M, e, h⟩ := h
  exact ⟨M, e, by unfold Lay; rwa [List.append_nil]⟩
theorem Lay.setE (h : Lay B M p s X w) (hB : B ≤ w.heap.size) {F' : List Nat} {z : LE} (he : EndIs w' (M.e me) F' z) (ht : Turns (M.F me) F' w w') : Step B M p s X w { M with F := up M.F me F' } { s with e := up s.e me z } w' := by
  cases me
  · exact turn_at h hB (i := 1) (o := endT (M.e false) (M.F false) (s.e false)) (o' := endT (M.e false) F' z) rfl he (endT_local _ _ _) ht rfl
  · exact turn_at h hB (i := 2) (o := endT (M.e true) (M.F true) (s.e true)) (o' := endT (M.e true) F' z) rfl he (endT_local _ _ _) ht rfl
theorem Lay.setN (h : Lay B M p s X w) (hB : B ≤ w.heap.size) {G' : List Nat} {z : NS} (he : NetIs w' M.q G' z) (ht : Turns M.G G' w w') : Step B M p s X w { M with G := G' } { s with n := z } w' :=
  turn_at h hB (i := 5) (o := netT M.q M.G s.n) (o' := netT M.q G' z) rfl he (netT_local _ _ _) ht rfl
theorem sep_right {B : Nat} {w : World} {l : List Thing} : ∀ X : List Thing, Sep B w (X ++ l) → Sep B w l
  | [], h => h
  | _ :: X, h => sep_right X h.tail
/-- a pipe that stood so at the start of a call, and stands so now -/
structure Now (B : Nat) (w : World) (M : PM) (p : Nat) (s : PS) (X : List Thing) (M' : PM) (s' : PS) (v : World) : Prop where
  lay : Lay B M' p s' X v
  turns : Turns (flat (things M p s)) (flat (things M' p s')) w v
  env : Env B v
section
variable {B : Nat} {M M1 M2 : PM} {w v v' : World} {p : Nat} {s s1 s2 : PS} {X : List Thing}
theorem Now.start (h : Lay B M p s [] w) (hv : Env B w) : Now B w M p s [] M s w := ⟨h, Turns.refl _ _, hv⟩
theorem Now.step (h : Now B w M p s X M1 s1 v) (k : Step B M1 p s1 X v M2 s2 v') : Now B w M p s X M2 s2 v' := ⟨k.lay, h.turns.trans k.turns, h.env.below k.below⟩
theorem Now.after (h : Now B w M p s X M1 s1 v) (hb : Below v.heap.size v v') : Now B w M p s X M1 s1 v' := ⟨h.lay.after hb, h.turns.trans (Turns.of_below hb _), h.env.below (hb.mono h.env.le)⟩
theorem Now.more (h : Now B w M p s [] M1 s1 v) (hb : Below v.heap.size v v') {o : Thing} (ho : o.P v') (loc : o.Local) (hn : ∀ k, k ∈ o.F → v.heap.size ≤ k) : Now B w M p s [o] M1 s1 v' := by
  refine ⟨?_, h.turns.trans (Turns.of_below hb _), h.env.below (hb.mono h.env.le)⟩
  have h1 := h.lay
  unfold Lay at h1 ⊢
  rw [List.append_nil] at h1
  exact Sep.perm (Sep.more h1 h.env.le hb ho loc hn) (List.perm_append_singleton _ _).symm
theorem Now.drop (h : Now B w M p s X M1 s1 v) : Now B w M p s [] M1 s1 v := by
  refine ⟨?_, h.turns, h.env⟩
  have h1 := h.lay
  unfold Lay at h1 ⊢
  rw [List.append_nil]
  exact sep_right X (Sep.perm h1 List.perm_append_comm)
theorem Now.is (h : Now B w M p s X M1 s1 v) (u : Value) : ActP B w p (flat (things M p s)) s1 u (.returned u) v := ⟨rfl, _, ⟨M1, rfl, by have := h.drop.lay; unfold Lay at this; rwa [List.append_nil] at this⟩, h.turns⟩
/-- a side is told more, but the pipe's cell is not written yet -/
structure Mid (B : Nat) (w : World) (M : PM) (p : Nat) (s : PS) (X : List Thing) (M1 : PM) (s1 : PS) (me : Bool) (a : Arr) (l : List ByteArray) (v : World) : Prop where
  sep : Sep B v (boxT p (M1.cells s1) 70 :: (things { M1 with g := up M1.g me a } p { s1 with g := up s1.g me l }).tail ++ X)
  turns : Turns (flat (things M p s)) (flat (things { M1 with g := up M1.g me a } p { s1 with g := up s1.g me l })) w v
  env : Env B v
theorem Now.grow (h : Now B w M p s X M1 s1 v) {me : Bool} {a : Arr} {l : List ByteArray} (hv : Vec v' a.F 1 a.A l.length a.c (l.map .string)) (ht : Turns (M1.g me).F a.F v v') : Mid B w M p s X M1 s1 me a l v' := by
  cases me
  · have hi : (things M1 p s1)[3]? = some (txT (M1.g false) (s1.g false)) := rfl
    exact ⟨Sep.turn h.lay h.env.le 3 (o := txT (M1.g false) (s1.g false)) (o' := txT a l) rfl hv (txT_local _ _) ht, h.turns.trans (flat_turn (o' := txT a l) hi ht), h.env.below (Sep.under (o := txT (M1.g false) (s1.g false)) h.lay h.env.le (List.mem_append_left _ (List.mem_of_getElem? hi)) ht)⟩
  · have hi : (things M1 p s1)[4]? = some (txT (M1.g true) (s1.g true)) := rfl
    exact ⟨Sep.turn h.lay h.env.le 4 (o := txT (M1.g true) (s1.g true)) (o' := txT a l) rfl hv (txT_local _ _) ht, h.turns.trans (flat_turn (o' := txT a l) hi ht), h.env.below (Sep.under (o := txT (M1.g true) (s1.g true)) h.lay h.env.le (List.mem_append_left _ (List.mem_of_getElem? hi)) ht)⟩
variable {me : Bool} {a : Arr} {l : List ByteArray}
theorem Mid.box (h : Mid B w M p s X M1 s1 me a l v) : v.heap[p]? = some (.cells (M1.cells s1) 70 (0, 0)) := Sep.at (o := boxT p (M1.cells s1) 70) h.sep 0 rfl
theorem Mid.set (h : Mid B w M p s X M1 s1 me a l v) {m : Nat} (hm : me.toNat = m) : Now B w M p s X { M1 with g := up M1.g me a } { s1 with g := up s1.g me l } (v.setCell ⟨p, 2 + m, none⟩ (sl a l.length)) := by
  subst hm
  have ht : Turns [p] [p] v (v.setCell ⟨p, 2 + me.toNat, none⟩ (sl a l.length)) := ⟨(Kept.refl [p] v).setCell (.inl (by simp)) _, fun _ h => .inl h⟩
  have h1 := Sep.turn h.sep h.env.le 0 (o := boxT p (M1.cells s1) 70) rfl (o' := boxT p (({ M1 with g := up M1.g me a } : PM).cells { s1 with g := up s1.g me l }) 70) (by have := set_block h.box (2 + me.toNat) (sl a l.length); rw [set_g] at this; exact this) (boxT_local _ _ _) ht
  have hu := Sep.under h.sep h.env.le (o := boxT p (M1.cells s1) 70) (by simp) ht
  refine ⟨h1, h.turns.trans ⟨ht.kept.mono fun k hk => flat_mem.2 ⟨_, .head _, by simp at hk; simp [boxT, hk]⟩, fun k hk => .inl hk⟩, h.env.below hu⟩
end
end
end Go.Proofs.YtihhflajkohibaaGreatDoor.Pipe
