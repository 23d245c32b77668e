/- Layer 6: errors.As and errors.Is of a fault, walked. Conditions: the variable of package errors is laid; the fault and the target lie. -/
import Derived.Test.YtihhflajkohibaaDoorFrameErr
namespace Go.Proofs.YtihhflajkohibaaDoor.Frame
set_option linter.unusedSimpArgs false
set_option linter.unusedVariables false
set_option maxRecDepth 100000
open Go.RowKit Go.Extern.Stop Go.Stop Go.Extern
open Go.Proofs.YtihhflajkohibaaDoor

/-- the model's entry for Comparable -/
def cmpF : Array Value → Sem Value := ReflectliteType.method fun t => do Rtype.noPackHeld "Comparable" t; pure (.bool (← typeInfo t).comparable)
theorem comparableE (w : World) : (cmpF #[.agg #[.pointer (some ⟨2, 42, none⟩)]]).run Tryd.prog w = .ok (.bool true) w := by kernel_rfl
theorem FaultAt.alloc {w : World} {g a : Nat} {n : Int} (h : FaultAt w g a n) (o : Obj) : FaultAt (w.alloc o) g a n := (Below.heap_alloc w o g (lt_of_block h)).trans h
theorem as_nil (t : Value) (w : World) : Calls Tryd.prog 43 #[.nilIface, t] w fun e w' => e = .returned (.bool false) ∧ w = w' := by
  go_enter Tryd.func43, Tryd.ntmps43
  go_wp2
  go_ret
  exact ⟨rfl, rfl⟩
set_option maxRecDepth 100000 in
set_option maxHeartbeats 1000000 in
theorem unwrap_is (g a : Nat) (n : Int) (w : World) (hf : FaultAt w g a n) : Calls Tryd.prog 90 #[.pointer (some ⟨g, 0, none⟩)] w fun e w' => e = .returned (.iface 42 (.int .i64 n)) ∧ w = w' := by
  have c1 := cell_of_block hf 1
  simp at c1
  go_enter Tryd.func90, Tryd.ntmps90
  go_wp2
  go_ret
  exact ⟨rfl, rfl⟩
set_option maxRecDepth 100000 in
set_option maxHeartbeats 4000000 in
/-- errors.As into a number: what the fault wraps -/
theorem as_inner (g a T : Nat) (n : Int) (V : Addr) (w : World) (hf : FaultAt w g a n) (hT : w.heap[T]? = some (.cells #[.int .i64 0] 42 (0, 0))) (hV : w.cell? V = some (.pointer (some ⟨T, 0, none⟩))) :
    Calls Tryd.prog 61 #[.iface 98 (.pointer (some ⟨g, 0, none⟩)), .iface 84 (.pointer (some ⟨T, 0, none⟩)), .agg #[.pointer (some ⟨2, 84, none⟩), .pointer (some V), .int .u64 150], .iface 123 (.agg #[.pointer (some ⟨2, 42, none⟩)])] w
      fun e w' => e = .returned (.bool true) ∧ w'.heap[T]? = some (.cells #[.int .i64 n] 42 (0, 0)) ∧ Kept [T] w w' := by
  have h10 := @run_callFunc_extern Tryd.prog 66 _ ReflectliteType.typeOf Tryd.func66 (by kernel_rfl) (by kernel_rfl) (by kernel_rfl) (by kernel_rfl)
  have h35 := @run_callFunc_extern Tryd.prog 95 _ (ReflectliteType.relation "AssignableTo" ReflectliteType.assignableTo) Tryd.func95 (by kernel_rfl) (by kernel_rfl) (by kernel_rfl) (by kernel_rfl)
  have h6 := @run_callFunc_extern Tryd.prog 58 _ (fun args => ReflectliteValue.unpack (args.getD 0 (.tuple #[]))) Tryd.func58 (by kernel_rfl) (by kernel_rfl) (by kernel_rfl) (by kernel_rfl)
  have h11 := @run_callFunc_extern Tryd.prog 67 _ (ReflectliteValue.method (ReflectliteValue.valueError "reflectlite.Value.Elem" 0) ReflectliteValue.elem) Tryd.func67 (by kernel_rfl) (by kernel_rfl) (by kernel_rfl) (by kernel_rfl)
  have h12 := @run_callFunc_extern Tryd.prog 68 _ ReflectliteValue.set Tryd.func68 (by kernel_rfl) (by kernel_rfl) (by kernel_rfl) (by kernel_rfl)
  have tD := typeOfD
  have tE := typeOfE
  have aDE := assignDE
  have aEE := assignEE
  have mA := mAssignable
  have vE := valueOfE
  have nD := noAsD
  have uD := unwrapD
  have mU := mUnwrap
  have hlt := lt_of_block hT
  obtain ⟨vb, vo, vs⟩ := V
  obtain rfl : vs = Option.none := World.cell?_spot hV
  have hvl : vb < w.heap.size := by
    rcases Nat.lt_or_ge vb w.heap.size with h | h
    · exact h
    · simp [World.cell?, Array.getElem?_eq_none h] at hV
  have hW1 : Below w.heap.size w (w.alloc (.cells #[.pointer (some ⟨2, 84, none⟩), .pointer (some ⟨vb, vo, none⟩), .int .u64 150] 106)) := (Below.refl _ _).alloc (Nat.le_refl _) _
  have hW2 : Below w.heap.size w ((w.alloc (.cells #[.pointer (some ⟨2, 84, none⟩), .pointer (some ⟨vb, vo, none⟩), .int .u64 150] 106)).alloc (.cells #[.int .i64 n] 42)) := hW1.alloc hW1.size _
  have hV1 := (hW1.cell (p := ⟨vb, vo, none⟩) hvl).trans hV
  have el := elemVP ⟨vb, vo, none⟩ ⟨T, 0, none⟩ _ hV1
  have hT2 := (hW2.block T hlt).trans hT
  have t2 := cell_of_block hT2 0
  simp at t2
  have hn2 : ((w.alloc (.cells #[.pointer (some ⟨2, 84, none⟩), .pointer (some ⟨vb, vo, none⟩), .int .u64 150] 106)).alloc (.cells #[.int .i64 n] 42)).cell? ⟨w.heap.size + 1, 0, none⟩ = some (.int .i64 n) := by
    simp
  have st := setE ⟨T, 0, none⟩ ⟨w.heap.size + 1, 0, none⟩ n (.int .i64 0) _ hn2 ((cell_of_block hT2 0).trans rfl) (frozen_of_block hT2 0)
  have HT := Lib.hid hT
  clear hW1 hW2 hV1 t2 hn2 hT hT2
  go_enter Tryd.func61, Tryd.ntmps61
  go_wp2_with fail
  refine wp_loop_rounds 2 ?_
  rw [rounds_succ]
  go_wp2_with (go_at_call 90; refine (unwrap_is g a n _ (hf.alloc _)).mono ?_; rintro e w' ⟨rfl, rfl⟩)
  rw [rounds_succ]
  go_wp2_with fail
  go_ret
  have hl1 : T < (w.setCell ⟨T, 0, none⟩ (.int .i64 n)).heap.size := by simpa [World.setCell] using hlt
  exact ⟨rfl, (Below.heap_alloc _ _ T (by simp; omega)).trans ((Below.heap_alloc _ _ T hl1).trans (set_block HT.out 0 _)), (((Kept.refl [T] w).setCell (.inl (by simp)) _).alloc _).alloc _⟩
set_option maxRecDepth 100000 in
set_option maxHeartbeats 4000000 in
theorem as_errno (g a T : Nat) (n : Int) (w : World) (hg : ErrAt w) (hf : FaultAt w g a n) (hT : w.heap[T]? = some (.cells #[.int .i64 0] 42 (0, 0))) :
    Calls Tryd.prog 43 #[.iface 98 (.pointer (some ⟨g, 0, none⟩)), .iface 84 (.pointer (some ⟨T, 0, none⟩))] w
      fun e w' => e = .returned (.bool true) ∧ w'.heap[T]? = some (.cells #[.int .i64 n] 42 (0, 0)) ∧ Kept [T] w w' := by
  have h6 := @run_callFunc_extern Tryd.prog 58 _ (fun args => ReflectliteValue.unpack (args.getD 0 (.tuple #[]))) Tryd.func58 (by kernel_rfl) (by kernel_rfl) (by kernel_rfl) (by kernel_rfl)
  have h7 := @run_callFunc_extern Tryd.prog 59 _ (ReflectliteValue.methodAny (ReflectliteValue.valueError "reflectlite.Value.Type" 0) (fun t _ _ _ => ReflectliteType.toType t)) Tryd.func59 (by kernel_rfl) (by kernel_rfl) (by kernel_rfl) (by kernel_rfl)
  have h8 := @run_callFunc_extern Tryd.prog 60 _ (ReflectliteValue.method (ReflectliteValue.valueError "reflectlite.Value.IsNil" 0) ReflectliteValue.isNil) Tryd.func60 (by kernel_rfl) (by kernel_rfl) (by kernel_rfl) (by kernel_rfl)
  have h27 := @run_callFunc_extern Tryd.prog 83 _ (ReflectliteType.abiMethod fun t => do pure (.int .u8 (← Rtype.kind t))) Tryd.func83 (by kernel_rfl) (by kernel_rfl) (by kernel_rfl) (by kernel_rfl)
  have h37 := @run_callFunc_extern Tryd.prog 97 _ (ReflectliteType.method ReflectliteType.elem) Tryd.func97 (by kernel_rfl) (by kernel_rfl) (by kernel_rfl) (by kernel_rfl)
  have h38 := @run_callFunc_extern Tryd.prog 98 _ (ReflectliteType.relation "Implements" ReflectliteType.implements_) Tryd.func98 (by kernel_rfl) (by kernel_rfl) (by kernel_rfl) (by kernel_rfl)
  have f6 := valueOfP
  have f7 := typeP
  have mK := mKind
  have mE := mElem
  have mI := mImplements
  have kP := kindP
  have kE := kindE
  have eP := elemP
  have iE := implementsE
  have n8 := isNilP ⟨w.heap.size, 0, none⟩ ⟨T, 0, none⟩ ((w.alloc (.cells #[.pointer (some ⟨T, 0, none⟩)] 84)).alloc (.cells #[.pointer (some ⟨2, 84, none⟩), .pointer (some ⟨w.heap.size, 0, none⟩), .int .u64 150] 106)) (by simp)
  have hlt : 0 < w.heap.size := by
    rcases Nat.lt_or_ge 0 w.heap.size with h | h
    · exact h
    · have e : w.heap[0]? = Option.none := Array.getElem?_eq_none h
      simp [ErrAt, World.cell?, e] at hg
  have hg2 : ((w.alloc (.cells #[.pointer (some ⟨T, 0, none⟩)] 84)).alloc (.cells #[.pointer (some ⟨2, 84, none⟩), .pointer (some ⟨w.heap.size, 0, none⟩), .int .u64 150] 106)).cell? ⟨0, 0, none⟩ = some (.iface 123 (.agg #[.pointer (some ⟨2, 80, none⟩)])) := by
    rw [World.cell?_alloc_lt _ _ ⟨0, 0, none⟩ (by simp <;> omega), World.cell?_alloc_lt _ _ ⟨0, 0, none⟩ hlt]; exact hg
  have hW1 : Below w.heap.size w (w.alloc (.cells #[.pointer (some ⟨T, 0, none⟩)] 84)) := (Below.refl _ _).alloc (Nat.le_refl _) _
  have hW2 : Below w.heap.size w ((w.alloc (.cells #[.pointer (some ⟨T, 0, none⟩)] 84)).alloc (.cells #[.pointer (some ⟨2, 84, none⟩), .pointer (some ⟨w.heap.size, 0, none⟩), .int .u64 150] 106)) := hW1.alloc hW1.size _
  have HW2 := Lib.hid hW2
  have HT := Lib.hid ((hW2.block T (lt_of_block hT)).trans hT)
  clear hW1 hW2 hT hlt
  go_enter Tryd.func43, Tryd.ntmps43
  go_wp2_with ((go_at_call 61; refine (as_inner g a T n ⟨w.heap.size, 0, none⟩ _ ((hf.alloc _).alloc _) HT.out (by simp)).mono ?_; rintro e w' ⟨rfl, hT', hk⟩))
  go_ret
  exact ⟨rfl, hT', (Kept.of_below HW2.out _).trans hk⟩
end Go.Proofs.YtihhflajkohibaaDoor.Frame
