/- Layer 6: errors.As and errors.Is of a fault: the number that it wraps, and where it stands. Conditions: the variable of package errors is laid. -/
import Derived.Test.YtihhflajkohibaaDoorFrameB
import Derived.LaidEql
import Derived.Stop.Asserts
import Derived.WalkKit
import Derived.RowKitTokens
namespace Go.Proofs.YtihhflajkohibaaDoor.Frame
set_option linter.unusedSimpArgs false
set_option linter.unusedVariables false
set_option maxRecDepth 100000
open Go.RowKit Go.Extern.Stop Go.Stop Go.Extern
open Go.Proofs.YtihhflajkohibaaDoor

/-- what is wrong, and where, in memory -/
def FaultAt (w : World) (g at_ : Nat) (no : Int) : Prop := w.heap[g]? = some (.cells #[.int .i64 (at_ : Int), .iface 42 (.int .i64 no)] 100 (0, 0))
/-- the variable of package errors: the handle of the type error -/
def ErrAt (w : World) : Prop := w.cell? ⟨0, 0, none⟩ = some (.iface 123 (.agg #[.pointer (some ⟨2, 80, none⟩)]))

/-! ### the model's entries for internal/reflectlite, at this program's types -/
theorem valueOfP (t : Addr) (w : World) : (ReflectliteValue.unpack (.iface 84 (.pointer (some t)))).run Tryd.prog w
    = .ok (.agg #[.pointer (some ⟨2, 84, none⟩), .pointer (some ⟨w.heap.size, 0, none⟩), .int .u64 150]) (w.alloc (.cells #[.pointer (some t)] 84)) := by kernel_rfl
theorem typeP (a : Addr) (w : World) : (ReflectliteValue.methodAny (ReflectliteValue.valueError "reflectlite.Value.Type" 0) (fun t _ _ _ => ReflectliteType.toType t) #[.agg #[.pointer (some ⟨2, 84, none⟩), .pointer (some a), .int .u64 150]]).run Tryd.prog w
    = .ok (.iface 123 (.agg #[.pointer (some ⟨2, 84, none⟩)])) w := by kernel_rfl
theorem mKind (h : Value) (w : World) : (Go.method 265 123 (.agg #[h]) "Kind").run Tryd.prog w = .ok (83, h) w := by kernel_rfl
theorem mElem (h : Value) (w : World) : (Go.method 265 123 (.agg #[h]) "Elem").run Tryd.prog w = .ok (97, .agg #[h]) w := by kernel_rfl
theorem mImplements (h : Value) (w : World) : (Go.method 265 123 (.agg #[h]) "Implements").run Tryd.prog w = .ok (98, .agg #[h]) w := by kernel_rfl
theorem mAssignable (h : Value) (w : World) : (Go.method 265 123 (.agg #[h]) "AssignableTo").run Tryd.prog w = .ok (95, .agg #[h]) w := by kernel_rfl
theorem mComparable (h : Value) (w : World) : (Go.method 265 123 (.agg #[h]) "Comparable").run Tryd.prog w = .ok (96, .agg #[h]) w := by kernel_rfl
theorem mUnwrap (v : Value) (w : World) : (Go.method 265 98 v "Unwrap").run Tryd.prog w = .ok (90, v) w := by kernel_rfl
theorem kindP (w : World) : ((ReflectliteType.abiMethod fun t => (fun a : Nat => Value.int IntKind.u8 (a : Int)) <$> Rtype.kind t) #[.pointer (some ⟨2, 84, none⟩)]).run Tryd.prog w = .ok (.int .u8 22) w := by kernel_rfl
theorem kindE (w : World) : ((ReflectliteType.abiMethod fun t => (fun a : Nat => Value.int IntKind.u8 (a : Int)) <$> Rtype.kind t) #[.pointer (some ⟨2, 42, none⟩)]).run Tryd.prog w = .ok (.int .u8 2) w := by kernel_rfl
theorem kindD (w : World) : ((ReflectliteType.abiMethod fun t => (fun a : Nat => Value.int IntKind.u8 (a : Int)) <$> Rtype.kind t) #[.pointer (some ⟨2, 98, none⟩)]).run Tryd.prog w = .ok (.int .u8 22) w := by kernel_rfl
theorem elemP (w : World) : (ReflectliteType.method ReflectliteType.elem #[.agg #[.pointer (some ⟨2, 84, none⟩)]]).run Tryd.prog w = .ok (.iface 123 (.agg #[.pointer (some ⟨2, 42, none⟩)])) w := by kernel_rfl
theorem implementsE (w : World) : (ReflectliteType.relation "Implements" ReflectliteType.implements_ #[.agg #[.pointer (some ⟨2, 42, none⟩)], .iface 123 (.agg #[.pointer (some ⟨2, 80, none⟩)])]).run Tryd.prog w = .ok (.bool true) w := by kernel_rfl
theorem implementsD (w : World) : (ReflectliteType.relation "Implements" ReflectliteType.implements_ #[.agg #[.pointer (some ⟨2, 98, none⟩)], .iface 123 (.agg #[.pointer (some ⟨2, 80, none⟩)])]).run Tryd.prog w = .ok (.bool true) w := by kernel_rfl
theorem typeOfD (v : Value) (w : World) : (ReflectliteType.typeOf #[.iface 98 v]).run Tryd.prog w = .ok (.iface 123 (.agg #[.pointer (some ⟨2, 98, none⟩)])) w := by kernel_rfl
theorem typeOfE (v : Value) (w : World) : (ReflectliteType.typeOf #[.iface 42 v]).run Tryd.prog w = .ok (.iface 123 (.agg #[.pointer (some ⟨2, 42, none⟩)])) w := by kernel_rfl
theorem assignDE (w : World) : (ReflectliteType.relation "AssignableTo" ReflectliteType.assignableTo #[.agg #[.pointer (some ⟨2, 98, none⟩)], .iface 123 (.agg #[.pointer (some ⟨2, 42, none⟩)])]).run Tryd.prog w = .ok (.bool false) w := by kernel_rfl
theorem assignEE (w : World) : (ReflectliteType.relation "AssignableTo" ReflectliteType.assignableTo #[.agg #[.pointer (some ⟨2, 42, none⟩)], .iface 123 (.agg #[.pointer (some ⟨2, 42, none⟩)])]).run Tryd.prog w = .ok (.bool true) w := by kernel_rfl
theorem assignDD (w : World) : (ReflectliteType.relation "AssignableTo" ReflectliteType.assignableTo #[.agg #[.pointer (some ⟨2, 98, none⟩)], .iface 123 (.agg #[.pointer (some ⟨2, 98, none⟩)])]).run Tryd.prog w = .ok (.bool true) w := by kernel_rfl
theorem valueOfD (e : Addr) (w : World) : (ReflectliteValue.unpack (.iface 98 (.pointer (some e)))).run Tryd.prog w
    = .ok (.agg #[.pointer (some ⟨2, 98, none⟩), .pointer (some ⟨w.heap.size, 0, none⟩), .int .u64 150]) (w.alloc (.cells #[.pointer (some e)] 98)) := by kernel_rfl
theorem valueOfE (n : Int) (w : World) : (ReflectliteValue.unpack (.iface 42 (.int .i64 n))).run Tryd.prog w
    = .ok (.agg #[.pointer (some ⟨2, 42, none⟩), .pointer (some ⟨w.heap.size, 0, none⟩), .int .u64 130]) (w.alloc (.cells #[.int .i64 n] 42)) := by kernel_rfl
theorem bind_ok {α β : Type} {P : Program} {m : Sem α} {k : α → Sem β} {a : α} {w w1 : World} (h : m.run P w = .ok a w1) : (m >>= k).run P w = (k a).run P w1 := by
  simp only [Sem.run_bind, h, Result.andThen]
theorem partsP (a : Addr) (w : World) : (ReflectliteValue.parts (.agg #[.pointer (some ⟨2, 84, none⟩), .pointer (some a), .int .u64 150])).run Tryd.prog w = .ok (some (84, a, 150)) w := by kernel_rfl
theorem isNilP (a p : Addr) (W : World) (ha : W.cell? a = some (.pointer (some p))) :
    (ReflectliteValue.method (ReflectliteValue.valueError "reflectlite.Value.IsNil" 0) ReflectliteValue.isNil #[.agg #[.pointer (some ⟨2, 84, none⟩), .pointer (some a), .int .u64 150]]).run Tryd.prog W = .ok (.bool false) W := by
  refine (bind_ok (partsP a W)).trans ?_
  simp [ReflectliteValue.isNil, loadVar, isAgg, underlying, Tryd.underlying84, ha, Result.andThen]
theorem elemOfP (w : World) : (Rtype.elem? 84).run Tryd.prog w = .ok (some 42) w := by kernel_rfl
theorem mkE (p : Addr) (w : World) : (ReflectliteValue.mk 42 p ReflectliteValue.flagAddr).run Tryd.prog w = .ok (.agg #[.pointer (some ⟨2, 42, none⟩), .pointer (some p), .int .u64 386]) w := by kernel_rfl
theorem mkD (p : Addr) (w : World) : (ReflectliteValue.mk 98 p ReflectliteValue.flagAddr).run Tryd.prog w = .ok (.agg #[.pointer (some ⟨2, 98, none⟩), .pointer (some p), .int .u64 406]) w := by kernel_rfl
theorem elemVP (a p : Addr) (W : World) (ha : W.cell? a = some (.pointer (some p))) :
    (ReflectliteValue.method (ReflectliteValue.valueError "reflectlite.Value.Elem" 0) ReflectliteValue.elem #[.agg #[.pointer (some ⟨2, 84, none⟩), .pointer (some a), .int .u64 150]]).run Tryd.prog W
      = .ok (.agg #[.pointer (some ⟨2, 42, none⟩), .pointer (some p), .int .u64 386]) W := by
  refine (bind_ok (partsP a W)).trans ?_
  simp [ReflectliteValue.elem, loadVar, isAgg, underlying, Tryd.underlying84, ha, Result.andThen, elemOfP, mkE]
theorem partsEa (a : Addr) (w : World) : (ReflectliteValue.parts (.agg #[.pointer (some ⟨2, 42, none⟩), .pointer (some a), .int .u64 386])).run Tryd.prog w = .ok (some (42, a, 386)) w := by kernel_rfl
theorem partsE (a : Addr) (w : World) : (ReflectliteValue.parts (.agg #[.pointer (some ⟨2, 42, none⟩), .pointer (some a), .int .u64 130])).run Tryd.prog w = .ok (some (42, a, 130)) w := by kernel_rfl
theorem directE (w : World) : (Rtype.directlyAssignable 42 42).run Tryd.prog w = .ok true w := by kernel_rfl
theorem partsDa (a : Addr) (w : World) : (ReflectliteValue.parts (.agg #[.pointer (some ⟨2, 98, none⟩), .pointer (some a), .int .u64 406])).run Tryd.prog w = .ok (some (98, a, 406)) w := by kernel_rfl
theorem partsD (a : Addr) (w : World) : (ReflectliteValue.parts (.agg #[.pointer (some ⟨2, 98, none⟩), .pointer (some a), .int .u64 150])).run Tryd.prog w = .ok (some (98, a, 150)) w := by kernel_rfl
theorem directD (w : World) : (Rtype.directlyAssignable 98 98).run Tryd.prog w = .ok true w := by kernel_rfl
theorem setE (ta b : Addr) (n : Int) (old : Value) (W : World) (hb : W.cell? b = some (.int .i64 n)) (ht : W.cell? ta = some old) (hf : W.frozen? ta = false) :
    (ReflectliteValue.set #[.agg #[.pointer (some ⟨2, 42, none⟩), .pointer (some ta), .int .u64 386], .agg #[.pointer (some ⟨2, 42, none⟩), .pointer (some b), .int .u64 130]]).run Tryd.prog W
      = .ok (.tuple #[]) (W.setCell ta (.int .i64 n)) := by
  refine (bind_ok (partsEa ta W)).trans ?_
  refine (bind_ok (partsE b W)).trans ?_
  simp [ReflectliteValue.flagAddr, loadVar, isAgg, underlying, Tryd.underlying42, hb, Result.andThen, directE, storeVar, Value.cells, storeCells, Addr.add]
  rw [run_store Tryd.prog W ta _ _ (by rfl)]
  simp [ht, hf]
theorem setD (ta b e : Addr) (old : Value) (W : World) (hb : W.cell? b = some (.pointer (some e))) (ht : W.cell? ta = some old) (hf : W.frozen? ta = false) :
    (ReflectliteValue.set #[.agg #[.pointer (some ⟨2, 98, none⟩), .pointer (some ta), .int .u64 406], .agg #[.pointer (some ⟨2, 98, none⟩), .pointer (some b), .int .u64 150]]).run Tryd.prog W
      = .ok (.tuple #[]) (W.setCell ta (.pointer (some e))) := by
  refine (bind_ok (partsDa ta W)).trans ?_
  refine (bind_ok (partsD b W)).trans ?_
  simp [ReflectliteValue.flagAddr, loadVar, isAgg, underlying, Tryd.underlying98, hb, Result.andThen, directD, storeVar, Value.cells, storeCells, Addr.add]
  rw [run_store Tryd.prog W ta _ _ (by rfl)]
  simp [ht, hf]
/-! ### what the assertions find -/
theorem noAsD (v : Value) (xT : TypeId) (w : World) : (Instr.typeAssert (.iface 98 v) xT 128 true).run Tryd.prog w = .ok (.tuple #[.nilIface, .bool false]) w := run_typeAssert_lacksB Tryd.underlying128 (by kernel_rfl) (by kernel_rfl) v xT w
theorem unwrapD (v : Value) (xT : TypeId) (w : World) : (Instr.typeAssert (.iface 98 v) xT 131 true).run Tryd.prog w = .ok (.tuple #[.iface 98 v, .bool true]) w := run_typeAssert_hasB Tryd.underlying131 (by kernel_rfl) v xT w
theorem noUnwrapE (v : Value) (xT : TypeId) (w : World) : (Instr.typeAssert (.iface 42 v) xT 131 true).run Tryd.prog w = .ok (.tuple #[.nilIface, .bool false]) w := run_typeAssert_lacksB Tryd.underlying131 (by kernel_rfl) (by kernel_rfl) v xT w
theorem noUnwrapsE (v : Value) (xT : TypeId) (w : World) : (Instr.typeAssert (.iface 42 v) xT 133 true).run Tryd.prog w = .ok (.tuple #[.nilIface, .bool false]) w := run_typeAssert_lacksB Tryd.underlying133 (by kernel_rfl) (by kernel_rfl) v xT w
theorem equal_errno (d : Nat) (a b : Int) (w : World) : (Op.equalIn (d + 2) 80 (.iface 42 (.int .i64 a)) (.iface 42 (.int .i64 b))).run Tryd.prog w = .ok (a == b) w := by
  obtain ⟨i, hi, hc⟩ := Option.map_eq_some_iff.1 (show (Tryd.prog.info? 42).map (·.comparable) = some true by kernel_rfl)
  simp [Op.equalIn, run_underlying Tryd.underlying80, run_underlying Tryd.underlying42, typeInfo, hi, hc]
/-- two errors that are numbers: as the numbers are -/
theorem eq_errno (a b : Int) (w : World) : (binOp .eql 80 (.iface 42 (.int .i64 a)) (.iface 42 (.int .i64 b))).run Tryd.prog w = .ok (.bool (a == b)) w := by
  simp only [binOp]
  simp [Op.equal, Op.maxDepth, equal_errno 9998]
end Go.Proofs.YtihhflajkohibaaDoor.Frame
