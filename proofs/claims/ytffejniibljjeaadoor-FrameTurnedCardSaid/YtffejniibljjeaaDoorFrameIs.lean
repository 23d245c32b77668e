/- Layer 6: errors.As and errors.Is of a fault, walked. Conditions: the variable of package errors is laid; the fault and the target lie. -/
import Derived.Test.YtffejniibljjeaaDoorFrameErr
namespace Go.Proofs.YtffejniibljjeaaDoor.Frame
set_option linter.unusedSimpArgs false
set_option linter.unusedVariables false
open Go.RowKit Go.Extern.Stop Go.Stop Go.Extern
open Go.Proofs.YtffejniibljjeaaDoor

/-- the model's entry for Comparable -/
def cmpF : Array Value → Sem Value := ReflectliteType.method fun t => do Rtype.noPackHeld "Comparable" t; pure (.bool (← typeInfo t).comparable)
theorem comparableE (w : World) : (cmpF #[.agg #[.pointer (some ⟨2, 27, none⟩)]]).run Tryd.prog w = .ok (.bool true) w := by kernel_rfl
theorem FaultAt.alloc {w : World} {g a : Nat} {n : Int} (h : FaultAt w g a n) (o : Obj) : FaultAt (w.alloc o) g a n := (Below.heap_alloc w o g (lt_of_block h)).trans h
theorem as_nil (t : Value) (w : World) : Calls Tryd.prog 25 #[.nilIface, t] w fun e w' => e = .returned (.bool false) ∧ w = w' := by
  go_enter Tryd.func25, Tryd.ntmps25
  go_wp2
  go_ret
  exact ⟨rfl, rfl⟩
set_option maxRecDepth 100000 in
set_option maxHeartbeats 1000000 in
theorem unwrap_is (g a : Nat) (n : Int) (w : World) (hf : FaultAt w g a n) : Calls Tryd.prog 58 #[.pointer (some ⟨g, 0, none⟩)] w fun e w' => e = .returned (.iface 27 (.int .i64 n)) ∧ w = w' := by
  have c1 := cell_of_block hf 1
  simp at c1
  go_enter Tryd.func58, Tryd.ntmps58
  go_wp2
  go_ret
  exact ⟨rfl, rfl⟩
set_option maxRecDepth 100000 in
set_option maxHeartbeats 4000000 in
theorem is_inner (g a : Nat) (n m : Int) (w : World) (hf : FaultAt w g a n) : Calls Tryd.prog 36 #[.iface 55 (.pointer (some ⟨g, 0, none⟩)), .iface 27 (.int .i64 m), .bool true] w fun e w' => e = .returned (.bool (n == m)) ∧ w = w' := by
  have nD := noIsD
  have uD := unwrapD
  have nE := noIsE
  have uE := noUnwrapE
  have vE := noUnwrapsE
  have mU := mUnwrap
  have hty := run_eql_iface_types (P := Tryd.prog) 55 27 (.pointer (some ⟨g, 0, none⟩)) (.int .i64 m) Tryd.underlying50 (by decide) w
  have heq := eq_errno n m w
  cases hnm : (n == m)
  all_goals
    rw [hnm] at heq
    clear hnm
    go_enter Tryd.func36, Tryd.ntmps36
    go_wp2_with fail
    refine wp_loop_rounds 2 ?_
    rw [rounds_succ]
    go_wp2_with (go_at_call 58; refine (unwrap_is g a n _ hf).mono ?_; rintro e w' ⟨rfl, rfl⟩)
    rw [rounds_succ]
    go_wp2_with fail
    go_ret
    exact ⟨rfl, rfl⟩
set_option maxRecDepth 100000 in
set_option maxHeartbeats 4000000 in
theorem is_number (g a : Nat) (n m : Int) (w : World) (hf : FaultAt w g a n) : Calls Tryd.prog 26 #[.iface 55 (.pointer (some ⟨g, 0, none⟩)), .iface 27 (.int .i64 m)] w fun e w' => e = .returned (.bool (n == m)) ∧ w = w' := by
  have hT := @run_callFunc_extern Tryd.prog 35 _ ReflectliteType.typeOf Tryd.func35 (by kernel_rfl) (by kernel_rfl) (by kernel_rfl) (by kernel_rfl)
  have hC := @run_callFunc_extern Tryd.prog 64 _ cmpF Tryd.func64 (by kernel_rfl) (by kernel_rfl) (by kernel_rfl) (by kernel_rfl)
  have tE := typeOfE
  have cE := comparableE
  have mC := mComparable
  go_enter Tryd.func26, Tryd.ntmps26
  go_wp2_with (go_at_call 36; refine (is_inner g a n m _ hf).mono ?_; rintro e w' ⟨rfl, rfl⟩)
  go_ret
  exact ⟨rfl, rfl⟩
set_option maxRecDepth 100000 in
set_option maxHeartbeats 4000000 in
/-- errors.As into a number: what the fault wraps -/
theorem as_inner (g a T : Nat) (n : Int) (V : Addr) (w : World) (hf : FaultAt w g a n) (hT : w.heap[T]? = some (.cells #[.int .i64 0] 27 (0, 0))) (hV : w.cell? V = some (.pointer (some ⟨T, 0, none⟩))) :
    Calls Tryd.prog 34 #[.iface 55 (.pointer (some ⟨g, 0, none⟩)), .iface 54 (.pointer (some ⟨T, 0, none⟩)), .agg #[.pointer (some ⟨2, 54, none⟩), .pointer (some V), .int .u64 150], .iface 81 (.agg #[.pointer (some ⟨2, 27, none⟩)])] w
      fun e w' => e = .returned (.bool true) ∧ w'.heap[T]? = some (.cells #[.int .i64 n] 27 (0, 0)) ∧ Kept [T] w w' := by
  have h10 := @run_callFunc_extern Tryd.prog 35 _ ReflectliteType.typeOf Tryd.func35 (by kernel_rfl) (by kernel_rfl) (by kernel_rfl) (by kernel_rfl)
  have h35 := @run_callFunc_extern Tryd.prog 63 _ (ReflectliteType.relation "AssignableTo" ReflectliteType.assignableTo) Tryd.func63 (by kernel_rfl) (by kernel_rfl) (by kernel_rfl) (by kernel_rfl)
  have h6 := @run_callFunc_extern Tryd.prog 31 _ (fun args => ReflectliteValue.unpack (args.getD 0 (.tuple #[]))) Tryd.func31 (by kernel_rfl) (by kernel_rfl) (by kernel_rfl) (by kernel_rfl)
  have h11 := @run_callFunc_extern Tryd.prog 37 _ (ReflectliteValue.method (ReflectliteValue.valueError "reflectlite.Value.Elem" 0) ReflectliteValue.elem) Tryd.func37 (by kernel_rfl) (by kernel_rfl) (by kernel_rfl) (by kernel_rfl)
  have h12 := @run_callFunc_extern Tryd.prog 38 _ ReflectliteValue.set Tryd.func38 (by kernel_rfl) (by kernel_rfl) (by kernel_rfl) (by kernel_rfl)
  have tD := typeOfD
  have tE := typeOfE
  have aDE := assignDE
  have aEE := assignEE
  have mA := mAssignable
  have vE := valueOfE
  have nD := noAsD
  have uD := unwrapD
  have mU := mUnwrap
  have hlt := lt_of_block hT
  obtain ⟨vb, vo, vs⟩ := V
  obtain rfl : vs = Option.none := World.cell?_spot hV
  have hvl : vb < w.heap.size := by
    rcases Nat.lt_or_ge vb w.heap.size with h | h
    · exact h
    · simp [World.cell?, Array.getElem?_eq_none h] at hV
  have hW1 : Below w.heap.size w (w.alloc (.cells #[.pointer (some ⟨2, 54, none⟩), .pointer (some ⟨vb, vo, none⟩), .int .u64 150] 68)) := (Below.refl _ _).alloc (Nat.le_refl _) _
  have hW2 : Below w.heap.size w ((w.alloc (.cells #[.pointer (some ⟨2, 54, none⟩), .pointer (some ⟨vb, vo, none⟩), .int .u64 150] 68)).alloc (.cells #[.int .i64 n] 27)) := hW1.alloc hW1.size _
  have hV1 := (hW1.cell (p := ⟨vb, vo, none⟩) hvl).trans hV
  have el := elemVP ⟨vb, vo, none⟩ ⟨T, 0, none⟩ _ hV1
  have hT2 := (hW2.block T hlt).trans hT
  have t2 := cell_of_block hT2 0
  simp at t2
  have hn2 : ((w.alloc (.cells #[.pointer (some ⟨2, 54, none⟩), .pointer (some ⟨vb, vo, none⟩), .int .u64 150] 68)).alloc (.cells #[.int .i64 n] 27)).cell? ⟨w.heap.size + 1, 0, none⟩ = some (.int .i64 n) := by
    simp
  have st := setE ⟨T, 0, none⟩ ⟨w.heap.size + 1, 0, none⟩ n (.int .i64 0) _ hn2 ((cell_of_block hT2 0).trans rfl) (frozen_of_block hT2 0)
  have HT := Lib.hid hT
  clear hW1 hW2 hV1 t2 hn2 hT hT2
  go_enter Tryd.func34, Tryd.ntmps34
  go_wp2_with fail
  refine wp_loop_rounds 2 ?_
  rw [rounds_succ]
  go_wp2_with (go_at_call 58; refine (unwrap_is g a n _ (hf.alloc _)).mono ?_; rintro e w' ⟨rfl, rfl⟩)
  rw [rounds_succ]
  go_wp2_with fail
  go_ret
  have hl1 : T < (w.setCell ⟨T, 0, none⟩ (.int .i64 n)).heap.size := by simpa [World.setCell] using hlt
  exact ⟨rfl, (Below.heap_alloc _ _ T (by simp; omega)).trans ((Below.heap_alloc _ _ T hl1).trans (set_block HT.out 0 _)), (((Kept.refl [T] w).setCell (.inl (by simp)) _).alloc _).alloc _⟩
set_option maxRecDepth 100000 in
set_option maxHeartbeats 4000000 in
theorem as_errno (g a T : Nat) (n : Int) (w : World) (hg : ErrAt w) (hf : FaultAt w g a n) (hT : w.heap[T]? = some (.cells #[.int .i64 0] 27 (0, 0))) :
    Calls Tryd.prog 25 #[.iface 55 (.pointer (some ⟨g, 0, none⟩)), .iface 54 (.pointer (some ⟨T, 0, none⟩))] w
      fun e w' => e = .returned (.bool true) ∧ w'.heap[T]? = some (.cells #[.int .i64 n] 27 (0, 0)) ∧ Kept [T] w w' := by
  have h6 := @run_callFunc_extern Tryd.prog 31 _ (fun args => ReflectliteValue.unpack (args.getD 0 (.tuple #[]))) Tryd.func31 (by kernel_rfl) (by kernel_rfl) (by kernel_rfl) (by kernel_rfl)
  have h7 := @run_callFunc_extern Tryd.prog 32 _ (ReflectliteValue.methodAny (ReflectliteValue.valueError "reflectlite.Value.Type" 0) (fun t _ _ _ => ReflectliteType.toType t)) Tryd.func32 (by kernel_rfl) (by kernel_rfl) (by kernel_rfl) (by kernel_rfl)
  have h8 := @run_callFunc_extern Tryd.prog 33 _ (ReflectliteValue.method (ReflectliteValue.valueError "reflectlite.Value.IsNil" 0) ReflectliteValue.isNil) Tryd.func33 (by kernel_rfl) (by kernel_rfl) (by kernel_rfl) (by kernel_rfl)
  have h27 := @run_callFunc_extern Tryd.prog 53 _ (ReflectliteType.abiMethod fun t => do pure (.int .u8 (← Rtype.kind t))) Tryd.func53 (by kernel_rfl) (by kernel_rfl) (by kernel_rfl) (by kernel_rfl)
  have h37 := @run_callFunc_extern Tryd.prog 65 _ (ReflectliteType.method ReflectliteType.elem) Tryd.func65 (by kernel_rfl) (by kernel_rfl) (by kernel_rfl) (by kernel_rfl)
  have h38 := @run_callFunc_extern Tryd.prog 66 _ (ReflectliteType.relation "Implements" ReflectliteType.implements_) Tryd.func66 (by kernel_rfl) (by kernel_rfl) (by kernel_rfl) (by kernel_rfl)
  have f6 := valueOfP
  have f7 := typeP
  have mK := mKind
  have mE := mElem
  have mI := mImplements
  have kP := kindP
  have kE := kindE
  have eP := elemP
  have iE := implementsE
  have n8 := isNilP ⟨w.heap.size, 0, none⟩ ⟨T, 0, none⟩ ((w.alloc (.cells #[.pointer (some ⟨T, 0, none⟩)] 54)).alloc (.cells #[.pointer (some ⟨2, 54, none⟩), .pointer (some ⟨w.heap.size, 0, none⟩), .int .u64 150] 68)) (by simp)
  have hlt : 0 < w.heap.size := by
    rcases Nat.lt_or_ge 0 w.heap.size with h | h
    · exact h
    · have e : w.heap[0]? = Option.none := Array.getElem?_eq_none h
      simp [ErrAt, World.cell?, e] at hg
  have hg2 : ((w.alloc (.cells #[.pointer (some ⟨T, 0, none⟩)] 54)).alloc (.cells #[.pointer (some ⟨2, 54, none⟩), .pointer (some ⟨w.heap.size, 0, none⟩), .int .u64 150] 68)).cell? ⟨0, 0, none⟩ = some (.iface 81 (.agg #[.pointer (some ⟨2, 50, none⟩)])) := by
    rw [World.cell?_alloc_lt _ _ ⟨0, 0, none⟩ (by simp <;> omega), World.cell?_alloc_lt _ _ ⟨0, 0, none⟩ hlt]; exact hg
  have hW1 : Below w.heap.size w (w.alloc (.cells #[.pointer (some ⟨T, 0, none⟩)] 54)) := (Below.refl _ _).alloc (Nat.le_refl _) _
  have hW2 : Below w.heap.size w ((w.alloc (.cells #[.pointer (some ⟨T, 0, none⟩)] 54)).alloc (.cells #[.pointer (some ⟨2, 54, none⟩), .pointer (some ⟨w.heap.size, 0, none⟩), .int .u64 150] 68)) := hW1.alloc hW1.size _
  have HW2 := Lib.hid hW2
  have HT := Lib.hid ((hW2.block T (lt_of_block hT)).trans hT)
  clear hW1 hW2 hT hlt
  go_enter Tryd.func25, Tryd.ntmps25
  go_wp2_with ((go_at_call 34; refine (as_inner g a T n ⟨w.heap.size, 0, none⟩ _ ((hf.alloc _).alloc _) HT.out (by simp)).mono ?_; rintro e w' ⟨rfl, hT', hk⟩))
  go_ret
  exact ⟨rfl, hT', (Kept.of_below HW2.out _).trans hk⟩
set_option maxRecDepth 100000 in
set_option maxHeartbeats 4000000 in
/-- errors.As into a fault: itself -/
theorem asF_inner (g a T : Nat) (n : Int) (V : Addr) (w : World) (hf : FaultAt w g a n) (hT : w.heap[T]? = some (.cells #[.pointer Option.none] 55 (0, 0))) (hV : w.cell? V = some (.pointer (some ⟨T, 0, none⟩))) :
    Calls Tryd.prog 34 #[.iface 55 (.pointer (some ⟨g, 0, none⟩)), .iface 56 (.pointer (some ⟨T, 0, none⟩)), .agg #[.pointer (some ⟨2, 56, none⟩), .pointer (some V), .int .u64 150], .iface 81 (.agg #[.pointer (some ⟨2, 55, none⟩)])] w
      fun e w' => e = .returned (.bool true) ∧ w'.heap[T]? = some (.cells #[.pointer (some ⟨g, 0, none⟩)] 55 (0, 0)) ∧ Kept [T] w w' := by
  have h10 := @run_callFunc_extern Tryd.prog 35 _ ReflectliteType.typeOf Tryd.func35 (by kernel_rfl) (by kernel_rfl) (by kernel_rfl) (by kernel_rfl)
  have h35 := @run_callFunc_extern Tryd.prog 63 _ (ReflectliteType.relation "AssignableTo" ReflectliteType.assignableTo) Tryd.func63 (by kernel_rfl) (by kernel_rfl) (by kernel_rfl) (by kernel_rfl)
  have h6 := @run_callFunc_extern Tryd.prog 31 _ (fun args => ReflectliteValue.unpack (args.getD 0 (.tuple #[]))) Tryd.func31 (by kernel_rfl) (by kernel_rfl) (by kernel_rfl) (by kernel_rfl)
  have h11 := @run_callFunc_extern Tryd.prog 37 _ (ReflectliteValue.method (ReflectliteValue.valueError "reflectlite.Value.Elem" 0) ReflectliteValue.elem) Tryd.func37 (by kernel_rfl) (by kernel_rfl) (by kernel_rfl) (by kernel_rfl)
  have h12 := @run_callFunc_extern Tryd.prog 38 _ ReflectliteValue.set Tryd.func38 (by kernel_rfl) (by kernel_rfl) (by kernel_rfl) (by kernel_rfl)
  have tD := typeOfD
  have tE := typeOfD
  have aDE := assignDD
  have mA := mAssignable
  have vE := valueOfD
  have nD := noAsD
  have uD := unwrapD
  have mU := mUnwrap
  have hlt := lt_of_block hT
  obtain ⟨vb, vo, vs⟩ := V
  obtain rfl : vs = Option.none := World.cell?_spot hV
  have hvl : vb < w.heap.size := by
    rcases Nat.lt_or_ge vb w.heap.size with h | h
    · exact h
    · simp [World.cell?, Array.getElem?_eq_none h] at hV
  have hW1 : Below w.heap.size w (w.alloc (.cells #[.pointer (some ⟨2, 56, none⟩), .pointer (some ⟨vb, vo, none⟩), .int .u64 150] 68)) := (Below.refl _ _).alloc (Nat.le_refl _) _
  have hW2 : Below w.heap.size w ((w.alloc (.cells #[.pointer (some ⟨2, 56, none⟩), .pointer (some ⟨vb, vo, none⟩), .int .u64 150] 68)).alloc (.cells #[.pointer (some ⟨g, 0, none⟩)] 55)) := hW1.alloc hW1.size _
  have hV1 := (hW1.cell (p := ⟨vb, vo, none⟩) hvl).trans hV
  have el := elemVF ⟨vb, vo, none⟩ ⟨T, 0, none⟩ _ hV1
  have hT2 := (hW2.block T hlt).trans hT
  have t2 := cell_of_block hT2 0
  simp at t2
  have hn2 : ((w.alloc (.cells #[.pointer (some ⟨2, 56, none⟩), .pointer (some ⟨vb, vo, none⟩), .int .u64 150] 68)).alloc (.cells #[.pointer (some ⟨g, 0, none⟩)] 55)).cell? ⟨w.heap.size + 1, 0, none⟩ = some (.pointer (some ⟨g, 0, none⟩)) := by
    simp
  have st := setD ⟨T, 0, none⟩ ⟨w.heap.size + 1, 0, none⟩ ⟨g, 0, none⟩ (.pointer Option.none) _ hn2 ((cell_of_block hT2 0).trans rfl) (frozen_of_block hT2 0)
  have HT := Lib.hid hT
  clear hW1 hW2 hV1 t2 hn2 hT hT2
  go_enter Tryd.func34, Tryd.ntmps34
  go_wp2_with fail
  refine wp_loop_rounds 1 ?_
  rw [rounds_succ]
  go_wp2_with fail
  go_ret
  have hl1 : T < (w.setCell ⟨T, 0, none⟩ (.pointer (some ⟨g, 0, none⟩))).heap.size := by simpa [World.setCell] using hlt
  exact ⟨rfl, (Below.heap_alloc _ _ T (by simp; omega)).trans ((Below.heap_alloc _ _ T hl1).trans (set_block HT.out 0 _)), (((Kept.refl [T] w).setCell (.inl (by simp)) _).alloc _).alloc _⟩
set_option maxRecDepth 100000 in
set_option maxHeartbeats 4000000 in
theorem as_fault (g a T : Nat) (n : Int) (w : World) (hg : ErrAt w) (hf : FaultAt w g a n) (hT : w.heap[T]? = some (.cells #[.pointer Option.none] 55 (0, 0))) :
    Calls Tryd.prog 25 #[.iface 55 (.pointer (some ⟨g, 0, none⟩)), .iface 56 (.pointer (some ⟨T, 0, none⟩))] w
      fun e w' => e = .returned (.bool true) ∧ w'.heap[T]? = some (.cells #[.pointer (some ⟨g, 0, none⟩)] 55 (0, 0)) ∧ Kept [T] w w' := by
  have h6 := @run_callFunc_extern Tryd.prog 31 _ (fun args => ReflectliteValue.unpack (args.getD 0 (.tuple #[]))) Tryd.func31 (by kernel_rfl) (by kernel_rfl) (by kernel_rfl) (by kernel_rfl)
  have h7 := @run_callFunc_extern Tryd.prog 32 _ (ReflectliteValue.methodAny (ReflectliteValue.valueError "reflectlite.Value.Type" 0) (fun t _ _ _ => ReflectliteType.toType t)) Tryd.func32 (by kernel_rfl) (by kernel_rfl) (by kernel_rfl) (by kernel_rfl)
  have h8 := @run_callFunc_extern Tryd.prog 33 _ (ReflectliteValue.method (ReflectliteValue.valueError "reflectlite.Value.IsNil" 0) ReflectliteValue.isNil) Tryd.func33 (by kernel_rfl) (by kernel_rfl) (by kernel_rfl) (by kernel_rfl)
  have h27 := @run_callFunc_extern Tryd.prog 53 _ (ReflectliteType.abiMethod fun t => do pure (.int .u8 (← Rtype.kind t))) Tryd.func53 (by kernel_rfl) (by kernel_rfl) (by kernel_rfl) (by kernel_rfl)
  have h37 := @run_callFunc_extern Tryd.prog 65 _ (ReflectliteType.method ReflectliteType.elem) Tryd.func65 (by kernel_rfl) (by kernel_rfl) (by kernel_rfl) (by kernel_rfl)
  have h38 := @run_callFunc_extern Tryd.prog 66 _ (ReflectliteType.relation "Implements" ReflectliteType.implements_) Tryd.func66 (by kernel_rfl) (by kernel_rfl) (by kernel_rfl) (by kernel_rfl)
  have f6 := valueOfF
  have f7 := typeF
  have mK := mKind
  have mE := mElem
  have mI := mImplements
  have kP := kindF
  have kE := kindD
  have eP := elemF
  have iE := implementsD
  have n8 := isNilF ⟨w.heap.size, 0, none⟩ ⟨T, 0, none⟩ ((w.alloc (.cells #[.pointer (some ⟨T, 0, none⟩)] 56)).alloc (.cells #[.pointer (some ⟨2, 56, none⟩), .pointer (some ⟨w.heap.size, 0, none⟩), .int .u64 150] 68)) (by simp)
  have hlt : 0 < w.heap.size := by
    rcases Nat.lt_or_ge 0 w.heap.size with h | h
    · exact h
    · have e : w.heap[0]? = Option.none := Array.getElem?_eq_none h
      simp [ErrAt, World.cell?, e] at hg
  have hg2 : ((w.alloc (.cells #[.pointer (some ⟨T, 0, none⟩)] 56)).alloc (.cells #[.pointer (some ⟨2, 56, none⟩), .pointer (some ⟨w.heap.size, 0, none⟩), .int .u64 150] 68)).cell? ⟨0, 0, none⟩ = some (.iface 81 (.agg #[.pointer (some ⟨2, 50, none⟩)])) := by
    rw [World.cell?_alloc_lt _ _ ⟨0, 0, none⟩ (by simp <;> omega), World.cell?_alloc_lt _ _ ⟨0, 0, none⟩ hlt]; exact hg
  have hW1 : Below w.heap.size w (w.alloc (.cells #[.pointer (some ⟨T, 0, none⟩)] 56)) := (Below.refl _ _).alloc (Nat.le_refl _) _
  have hW2 : Below w.heap.size w ((w.alloc (.cells #[.pointer (some ⟨T, 0, none⟩)] 56)).alloc (.cells #[.pointer (some ⟨2, 56, none⟩), .pointer (some ⟨w.heap.size, 0, none⟩), .int .u64 150] 68)) := hW1.alloc hW1.size _
  have HW2 := Lib.hid hW2
  have HT := Lib.hid ((hW2.block T (lt_of_block hT)).trans hT)
  clear hW1 hW2 hT hlt
  go_enter Tryd.func25, Tryd.ntmps25
  go_wp2_with ((go_at_call 34; refine (asF_inner g a T n ⟨w.heap.size, 0, none⟩ _ ((hf.alloc _).alloc _) HT.out (by simp)).mono ?_; rintro e w' ⟨rfl, hT', hk⟩))
  go_ret
  exact ⟨rfl, hT', (Kept.of_below HW2.out _).trans hk⟩
end Go.Proofs.YtffejniibljjeaaDoor.Frame
