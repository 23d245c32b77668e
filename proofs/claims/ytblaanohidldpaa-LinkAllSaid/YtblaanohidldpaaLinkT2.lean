/- Layer 9: two ends as the statements hold them: eight cells; what an act of two ends makes of them. Conditions: all lie apart from each other (Lay). -/
import Derived.Test.YtblaanohidldpaaLinkTwo
import Derived.Test.YtblaanohidldpaaLinkAll
import Derived.Test.YtblaanohidldpaaSep
import Derived.Test.YtblaanohidldpaaWhole
namespace Go.Proofs.Ytblaanohidldpaa.Link
set_option linter.unusedSimpArgs false
set_option linter.unusedVariables false
open Go.RowKit
/-- two ends, what each let out, sent and was told; by side -/
structure T2 where
  e : Bool → LE
  o : Bool → List Fr
  s : Bool → List ByteArray
  g : Bool → List ByteArray
def upB {α : Type} (f : Bool → α) (b : Bool) (x : α) : Bool → α := fun c => if c = b then x else f c
theorem upB_same {α : Type} (f : Bool → α) (b : Bool) (x : α) : upB f b x b = x := by simp [upB]
theorem upB_other {α : Type} (f : Bool → α) (b : Bool) (x : α) : upB f b x (!b) = f (!b) := by cases b <;> simp [upB]
namespace T2
variable (t : T2) (me : Bool)
def send (b : ByteArray) : T2 := { t with e := upB t.e me ((t.e me).sent b), s := upB t.s me (if (t.e me).sendE b = 0 then t.s me ++ [b] else t.s me) }
def out : T2 := { t with e := upB t.e me (t.e me).gone, o := upB t.o me (t.o me ++ (t.e me).goes) }
def tick : T2 := { t with e := upB t.e me (t.e me).ticked }
def take (f : Fr) : T2 := { t with e := upB t.e me ((t.e me).taken f), g := upB t.g me (if (t.e me).isNext f then t.g me ++ [(t.e me).told f] else t.g me) }
end T2
/-- where a slice stands -/
structure Arr where
  A : Option Addr
  c : Nat
  F : List Nat
structure Mem2 where
  p : Bool → Nat
  F : Bool → List Nat
  o : Bool → Arr
  s : Bool → Arr
  g : Bool → Arr
def sl (a : Arr) (n : Nat) : Value := .slice a.A n a.c
def Mem2.cells (M : Mem2) (t : T2) : Array Value := #[.pointer (some ⟨M.p false, 0, none⟩), .pointer (some ⟨M.p true, 0, none⟩), sl (M.o false) (t.o false).length, sl (M.o true) (t.o true).length, sl (M.s false) (t.s false).length, sl (M.s true) (t.s true).length, sl (M.g false) (t.g false).length, sl (M.g true) (t.g true).length]
def endT (p : Nat) (F : List Nat) (x : LE) : Thing := ⟨fun w => EndIs w p F x, F⟩
theorem endT_local (p : Nat) (F : List Nat) (x : LE) : (endT p F x).Local := ⟨fun _ h _ hk => EndIs.lt h hk, fun _ _ h hs hb => EndIs.keep h hs hb⟩
def frT (a : Arr) (l : List Fr) : Thing := vecT a.F 5 a.A l.length a.c (l.flatMap Fr.cells)
def txT (a : Arr) (l : List ByteArray) : Thing := vecT a.F 1 a.A l.length a.c (l.map .string)
def things (M : Mem2) (t : T2) : List Thing := [endT (M.p false) (M.F false) (t.e false), endT (M.p true) (M.F true) (t.e true), frT (M.o false) (t.o false), frT (M.o true) (t.o true), txT (M.s false) (t.s false), txT (M.s true) (t.s true), txT (M.g false) (t.g false), txT (M.g true) (t.g true)]
/-- a block -/
def boxT (g : Nat) (cs : Array Value) (ty : TypeId) : Thing := ⟨fun w => w.heap[g]? = some (.cells cs ty (0, 0)), [g]⟩
theorem boxT_local (g : Nat) (cs : Array Value) (ty : TypeId) : (boxT g cs ty).Local := ⟨fun w h k hk => by simp [boxT] at hk; subst hk; exact lt_of_block h, fun w w' h _ hb => (hb g (by simp [boxT])).trans h⟩
/-- all that, and things besides -/
def Lay (B : Nat) (M : Mem2) (t : T2) (X : List Thing) (w : World) : Prop := Sep B w (things M t ++ X)
section
variable {B : Nat} {M : Mem2} {t : T2} {X : List Thing} {w w' : World} (me : Bool)
theorem things_e : (things M t ++ X)[me.toNat]? = some (endT (M.p me) (M.F me) (t.e me)) := by cases me <;> rfl
theorem things_o : (things M t ++ X)[2 + me.toNat]? = some (frT (M.o me) (t.o me)) := by cases me <;> rfl
theorem things_s : (things M t ++ X)[4 + me.toNat]? = some (txT (M.s me) (t.s me)) := by cases me <;> rfl
theorem things_g : (things M t ++ X)[6 + me.toNat]? = some (txT (M.g me) (t.g me)) := by cases me <;> rfl
theorem Lay.e (h : Lay B M t X w) : EndIs w (M.p me) (M.F me) (t.e me) := Sep.at h _ (things_e me)
theorem Lay.o (h : Lay B M t X w) : Vec w (M.o me).F 5 (M.o me).A (t.o me).length (M.o me).c ((t.o me).flatMap Fr.cells) := Sep.at h _ (things_o me)
theorem Lay.s (h : Lay B M t X w) : Vec w (M.s me).F 1 (M.s me).A (t.s me).length (M.s me).c ((t.s me).map .string) := Sep.at h _ (things_s me)
theorem Lay.g (h : Lay B M t X w) : Vec w (M.g me).F 1 (M.g me).A (t.g me).length (M.g me).c ((t.g me).map .string) := Sep.at h _ (things_g me)
variable {me}
theorem Lay.setE (h : Lay B M t X w) (hB : B ≤ w.heap.size) {F' : List Nat} {z : LE} (he : EndIs w' (M.p me) F' z) (ht : Turns (M.F me) F' w w') : Lay B { M with F := upB M.F me F' } { t with e := upB t.e me z } X w' := by
  have k := Sep.turn h hB me.toNat (things_e me) (o' := endT (M.p me) F' z) he (endT_local _ _ _) ht
  cases me <;> exact k
theorem Lay.setO (h : Lay B M t X w) (hB : B ≤ w.heap.size) {a : Arr} {l : List Fr} (hv : Vec w' a.F 5 a.A l.length a.c (l.flatMap Fr.cells)) (ht : Turns (M.o me).F a.F w w') : Lay B { M with o := upB M.o me a } { t with o := upB t.o me l } X w' := by
  have k := Sep.turn h hB (2 + me.toNat) (things_o me) (o' := frT a l) hv (vecT_local _ _ _ _ _ _) ht
  cases me <;> exact k
theorem Lay.setS (h : Lay B M t X w) (hB : B ≤ w.heap.size) {a : Arr} {l : List ByteArray} (hv : Vec w' a.F 1 a.A l.length a.c (l.map .string)) (ht : Turns (M.s me).F a.F w w') : Lay B { M with s := upB M.s me a } { t with s := upB t.s me l } X w' := by
  have k := Sep.turn h hB (4 + me.toNat) (things_s me) (o' := txT a l) hv (vecT_local _ _ _ _ _ _) ht
  cases me <;> exact k
theorem Lay.setG (h : Lay B M t X w) (hB : B ≤ w.heap.size) {a : Arr} {l : List ByteArray} (hv : Vec w' a.F 1 a.A l.length a.c (l.map .string)) (ht : Turns (M.g me).F a.F w w') : Lay B { M with g := upB M.g me a } { t with g := upB t.g me l } X w' := by
  have k := Sep.turn h hB (6 + me.toNat) (things_g me) (o' := txT a l) hv (vecT_local _ _ _ _ _ _) ht
  cases me <;> exact k
theorem Lay.after (h : Lay B M t X w) (hb : Below w.heap.size w w') : Lay B M t X w' := Sep.after h hb
theorem Lay.x (h : Lay B M t X w) (j : Nat) {o : Thing} (hj : X[j]? = some o) : o.P w := Sep.at h (8 + j) (by
  rw [List.getElem?_append_right (by simp [things])]; simpa [things] using hj)
theorem Lay.setX (h : Lay B M t X w) (hB : B ≤ w.heap.size) (j : Nat) {o o' : Thing} (hj : X[j]? = some o) (h' : o'.P w') (loc : o'.Local) (ht : Turns o.F o'.F w w') : Lay B M t (X.set j o') w' := by
  have k := Sep.turn h hB (8 + j) (by rw [List.getElem?_append_right (by simp [things])]; simpa [things] using hj) h' loc ht
  have e : (things M t ++ X).set (8 + j) o' = things M t ++ X.set j o' := by
    rw [List.set_append_right _ _ (by simp [things])]; simp [things]
  unfold Lay
  rw [← e]; exact k
theorem Lay.underE (h : Lay B M t X w) (hB : B ≤ w.heap.size) {F' : List Nat} (ht : Turns (M.F me) F' w w') : Below B w w' := Sep.under h hB (List.mem_of_getElem? (things_e (X := X) me)) ht
theorem Lay.underO (h : Lay B M t X w) (hB : B ≤ w.heap.size) {F' : List Nat} (ht : Turns (M.o me).F F' w w') : Below B w w' := Sep.under h hB (List.mem_of_getElem? (things_o (X := X) me)) ht
theorem Lay.underS (h : Lay B M t X w) (hB : B ≤ w.heap.size) {F' : List Nat} (ht : Turns (M.s me).F F' w w') : Below B w w' := Sep.under h hB (List.mem_of_getElem? (things_s (X := X) me)) ht
theorem Lay.underG (h : Lay B M t X w) (hB : B ≤ w.heap.size) {F' : List Nat} (ht : Turns (M.g me).F F' w w') : Below B w w' := Sep.under h hB (List.mem_of_getElem? (things_g (X := X) me)) ht
/-- a cell of a box is another one -/
theorem Lay.box (h : Lay B M t X w) (hB : B ≤ w.heap.size) (j : Nat) {g : Nat} {cs : Array Value} {ty : TypeId} (hj : X[j]? = some (boxT g cs ty)) (i : Nat) (u : Value) : Lay B M t (X.set j (boxT g (cs.setIfInBounds i u) ty)) (w.setCell ⟨g, i, none⟩ u) ∧ Below B w (w.setCell ⟨g, i, none⟩ u) := by
  have hb : w.heap[g]? = some (.cells cs ty (0, 0)) := h.x j hj
  have ht : Turns [g] [g] w (w.setCell ⟨g, i, none⟩ u) := ⟨(Kept.refl [g] w).setCell (.inl (by simp)) u, fun _ h => .inl h⟩
  refine ⟨h.setX hB j hj (set_block hb i u) (boxT_local _ _ _) ht, ?_⟩
  have hm : boxT g cs ty ∈ things M t ++ X := List.mem_append_right _ (List.mem_of_getElem? hj)
  exact Sep.under h hB hm ht
/-- the cells by side -/
theorem cells_e (M : Mem2) (t : T2) (me : Bool) : (M.cells t)[me.toNat]? = some (.pointer (some ⟨M.p me, 0, none⟩)) := by cases me <;> rfl
theorem cells_o (M : Mem2) (t : T2) (me : Bool) : (M.cells t)[2 + me.toNat]? = some (sl (M.o me) (t.o me).length) := by cases me <;> rfl
theorem cells_s (M : Mem2) (t : T2) (me : Bool) : (M.cells t)[4 + me.toNat]? = some (sl (M.s me) (t.s me).length) := by cases me <;> rfl
theorem cells_g (M : Mem2) (t : T2) (me : Bool) : (M.cells t)[6 + me.toNat]? = some (sl (M.g me) (t.g me).length) := by cases me <;> rfl
theorem set_o (M : Mem2) (t : T2) (me : Bool) (a : Arr) (l : List Fr) : (M.cells t).setIfInBounds (2 + me.toNat) (sl a l.length) = ({ M with o := upB M.o me a } : Mem2).cells { t with o := upB t.o me l } := by cases me <;> rfl
theorem set_s (M : Mem2) (t : T2) (me : Bool) (a : Arr) (l : List ByteArray) : (M.cells t).setIfInBounds (4 + me.toNat) (sl a l.length) = ({ M with s := upB M.s me a } : Mem2).cells { t with s := upB t.s me l } := by cases me <;> rfl
theorem set_g (M : Mem2) (t : T2) (me : Bool) (a : Arr) (l : List ByteArray) : (M.cells t).setIfInBounds (6 + me.toNat) (sl a l.length) = ({ M with g := upB M.g me a } : Mem2).cells { t with g := upB t.g me l } := by cases me <;> rfl
end
theorem side_any (a : Act9) (w : World) :
    Calls Try.prog 32 #[.agg a.cells.toArray] w fun e w' => e = .returned (.int .i64 ((a.side.toNat : Nat) : Int)) ∧ Below w.heap.size w w' := by
  obtain ⟨K, N, sd, S, ⟨ek, ee, es, ea, eb⟩⟩ := a
  have hb : Below w.heap.size w (w.alloc (.cells #[.int .i64 K, .int .i64 N, .bool sd, .string S, .int .i64 ek, .int .i64 ee, .int .u64 es, .int .u64 ea, .string eb] 44)) := (Below.refl _ _).alloc (Nat.le_refl _) _
  have HB := Lib.hid hb
  clear hb
  simp only [Act9.cells]
  cases sd
  · go_enter Try.func32, Try.ntmps32
    go_wp2_with fail
    go_ret
    exact ⟨rfl, HB.out⟩
  · go_enter Try.func32, Try.ntmps32
    go_wp2_with fail
    go_ret
    exact ⟨rfl, HB.out⟩
end Go.Proofs.Ytblaanohidldpaa.Link
