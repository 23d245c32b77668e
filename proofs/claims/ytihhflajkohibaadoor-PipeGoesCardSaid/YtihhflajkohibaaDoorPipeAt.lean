/- Layer 10: a pipe that the call made, from act to act. Conditions: the pipe stands (Stand). -/
import Derived.Test.YtihhflajkohibaaDoorPipeNew
import Derived.Test.YtihhflajkohibaaDoorPipeGo
import Derived.Test.YtihhflajkohibaaDoorPipeCome
namespace Go.Proofs.YtihhflajkohibaaDoor.Pipe
set_option linter.unusedSimpArgs false
set_option linter.unusedVariables false
set_option maxRecDepth 100000
open Go.RowKit
open Go.Proofs.YtihhflajkohibaaDoor
open Go.Proofs.YtihhflajkohibaaDoor.Link (LE Fr EndIs)
open Go.Proofs.YtihhflajkohibaaDoor.Net (NS NetIs)
/-- a pipe that was made since w0, and all that was there ahead is as it was -/
structure Stand (w0 : World) (p : Nat) (s : PS) (w : World) : Prop where
  is : ∃ F, PipeIs w0.heap.size w p F s
  below : Below w0.heap.size w0 w
  env : Env w0.heap.size w
theorem no_false : no false = 0 := rfl
theorem no_true : no true = 1 := rfl
section
variable {w0 w w' : World} {p : Nat} {s s' : PS}
theorem Stand.after (h : Stand w0 p s w) (hb : Below w.heap.size w w') : Stand w0 p s w' := by
  obtain ⟨F, hF⟩ := h.is
  exact ⟨⟨F, hF.after hb⟩, h.below.trans (hb.mono h.env.le), h.env.below (hb.mono h.env.le)⟩
theorem Stand.drewN (h : Stand w0 p s w) (n : Nat) : Stand w0 p s (w.drewN n) := h.after (below_drewN (Below.refl _ _) n)
theorem Stand.act (h : Stand w0 p s w) {f : FuncId} {args : Array Value} {v : Value} (k : ∀ F, PipeIs w0.heap.size w p F s → Calls Tryd.prog f args w (ActP w0.heap.size w p F s' v)) : Calls Tryd.prog f args w fun e w' => e = .returned v ∧ Stand w0 p s' w' := by
  obtain ⟨F, hF⟩ := h.is
  refine (k F hF).mono ?_
  rintro e w' ⟨rfl, F', h1, h2⟩
  have hb := hF.under h.env.le h2
  exact ⟨rfl, ⟨F', h1⟩, h.below.trans hb, h.env.below hb⟩
theorem stand_new (epoch first window queue wait room : Int) (hf : Link.u first = first) (w0 w : World) (hb : Below w0.heap.size w0 w) (hv : Env w0.heap.size w) :
    Calls Tryd.prog 8 #[.int .i64 epoch, .int .u64 first, .int .i64 window, .int .i64 queue, .int .i64 wait, .int .i64 room] w fun e w' => ∃ p, e = .returned (.pointer (some ⟨p, 0, none⟩)) ∧ Stand w0 p (new epoch first window queue wait room) w' := by
  refine (new_any epoch first window queue wait room hf w).mono ?_
  rintro e w' ⟨p, F, rfl, h1, h2, h3⟩
  obtain ⟨M, e, hs⟩ := h1
  refine ⟨p, rfl, ⟨F, M, e, ?_⟩, hb.trans (h3.mono hv.le), hv.below (h3.mono hv.le)⟩
  exact Pipe.Sep.lower hs hv.le
theorem Stand.send (h : Stand w0 p s w) (me : Bool) (b : ByteArray) :
    Calls Tryd.prog 19 #[.pointer (some ⟨p, 0, none⟩), .int .i64 (no me), .string b] w (fun e w' => e = .returned (.int .i64 ((s.e me).sendE b)) ∧ Stand w0 p (s.send me b) w') := h.act fun _ k => send_yes k h.env.le me b
theorem Stand.tick (h : Stand w0 p s w) (me : Bool) :
    Calls Tryd.prog 15 #[.pointer (some ⟨p, 0, none⟩), .int .i64 (no me)] w (fun e w' => e = .returned (.tuple #[]) ∧ Stand w0 p (s.tick me) w') := h.act fun _ k => tick_yes k h.env.le me
theorem Stand.go (h : Stand w0 p s w) (me : Bool) :
    Calls Tryd.prog 16 #[.pointer (some ⟨p, 0, none⟩), .int .i64 (no me)] w (fun e w' => e = .returned (.int .i64 ((s.gone me).2 : Int)) ∧ Stand w0 p (s.go me) w') := h.act fun _ k => go_yes k h.env me
theorem Stand.come (h : Stand w0 p s w) (me : Bool) (k : Int) (hsh : Short s.n) (hg : (s.g me).length ≤ 1000000) :
    Calls Tryd.prog 17 #[.pointer (some ⟨p, 0, none⟩), .int .i64 (no me), .int .i64 k] w (fun e w' => e = .returned (.tuple #[.string (s.comeS me k), .bool (s.comeB me k)]) ∧ Stand w0 p (s.come me k) w') := h.act fun _ j => come_yes j h.env hsh me hg k
theorem Stand.lose (h : Stand w0 p s w) (me : Bool) (k : Int) :
    Calls Tryd.prog 14 #[.pointer (some ⟨p, 0, none⟩), .int .i64 (no me), .int .i64 k] w (fun e w' => e = .returned (.bool (s.has me k)) ∧ Stand w0 p (s.lose me k) w') := h.act fun _ j => lose_yes j h.env.le me k
theorem Stand.look (h : Stand w0 p s w) (me : Bool) (k : Int) :
    Calls Tryd.prog 21 #[.pointer (some ⟨p, 0, none⟩), .int .i64 (no me), .int .i64 k] w (fun e w' => e = .returned (.tuple #[.string (s.look me k), .bool (s.has me k)]) ∧ Stand w0 p (s) w') := h.act fun _ j => look_yes j h.env.le me k
theorem Stand.double (h : Stand w0 p s w) (me : Bool) (k : Int) :
    Calls Tryd.prog 22 #[.pointer (some ⟨p, 0, none⟩), .int .i64 (no me), .int .i64 k] w (fun e w' => e = .returned (.bool (s.doubleOk me k)) ∧ Stand w0 p (s.double me k) w') := h.act fun _ j => double_yes j h.env.le me k
theorem Stand.flip (h : Stand w0 p s w) (me : Bool) (k bit : Int) (hsh : Short s.n) :
    Calls Tryd.prog 20 #[.pointer (some ⟨p, 0, none⟩), .int .i64 (no me), .int .i64 k, .int .i64 bit] w (fun e w' => e = .returned (.bool (s.flipOk me k)) ∧ Stand w0 p (s.flip me k bit) w') := h.act fun _ j => flip_yes j h.env.le me k bit (by
  have : (s.look me k).size ≤ 100 := hsh.look _ _ _
  omega)
theorem Stand.waiting (h : Stand w0 p s w) (me : Bool) : Calls Tryd.prog 18 #[.pointer (some ⟨p, 0, none⟩), .int .i64 (no me)] w fun e w' => e = .returned (.int .i64 ((s.e me).bodies.length : Int)) ∧ w = w' := by
  obtain ⟨F, hF⟩ := h.is
  exact waiting_yes hF me
theorem Stand.got (h : Stand w0 p s w) (me : Bool) (hl : (s.g me).length ≤ 1000000) : Calls Tryd.prog 12 #[.pointer (some ⟨p, 0, none⟩), .int .i64 (no me)] w fun e w' => ∃ A' c' G', e = .returned (.slice A' (s.g me).length c') ∧ Vec w' G' 1 A' (s.g me).length c' ((s.g me).map .string) ∧ Stand w0 p s w' := by
  obtain ⟨F, hF⟩ := h.is
  refine (got_yes hF me hl).mono ?_
  rintro e w' ⟨A', c', G', rfl, h1, h2, h3⟩
  exact ⟨A', c', G', rfl, h1, h.after h3⟩
end
end Go.Proofs.YtihhflajkohibaaDoor.Pipe
