/- errors.As and errors.Is, at the values that this program's packages hand them: contracts, each for every world that holds what is named. -/
import Derived.Test.YtbocflglknkiaaaGreatDoorBase
import Derived.Stop.Asserts
import Derived.RowKitTokens
namespace Go.Proofs.YtbocflglknkiaaaGreatDoor
open Go.RowKit Go.Extern.Stop Go.Stop Go.Extern

/-- errors.As(nil, target). -/
theorem as_nil (t : Value) (w : World) :
    Calls Tryz.prog 31 #[.nilIface, t] w fun e w' => e = .returned (.bool false) ∧ w = w' := by
  go_enter Tryz.func31, Tryz.ntmps31
  go_wp2
  go_ret
  exact ⟨rfl, rfl⟩

theorem rlm (z : Sem Value) (f : TypeId → Addr → Nat → Nat → Sem Value) (v : Value) :
    ReflectliteValue.method z f #[v] = (do match ← ReflectliteValue.parts v with | none => z | some (t, a, fl) => f t a fl (fl % 32)) := rfl
theorem rls (v x : Value) : ReflectliteValue.set #[v, x] = (do
    let (some (dst, a, fl), some (src, b, _)) := (← ReflectliteValue.parts v, ← ReflectliteValue.parts x)
      | unsupported (.noEntry "extern/(internal/reflectlite.Value).Set.zeroValue")
    if fl / ReflectliteValue.flagAddr % 2 == 0 then unsupported (.noEntry "extern/(internal/reflectlite.Value).Set.unaddressable")
    let val ← loadVar src b
    if ← Rtype.directlyAssignable dst src then storeVar dst a val
    else if ← Rtype.implements dst src then
      if (← Rtype.kind src) == 20 then
        match val with
        | .nilIface => unsupported (.noEntry "extern/reflectlite: a nil value of one interface type handed on as a value of another")
        | _ => storeVar dst a val
      else storeVar dst a (.iface src val)
    else panicString ("reflectlite.Set: value of type " ++ (← Rtype.spelt src) ++ " is not assignable to type " ++ (← Rtype.spelt dst))
    pure (.tuple #[])) := rfl
theorem methodKind (h : Value) (w : World) : (Go.method 290 125 (.agg #[h]) "Kind").run Tryz.prog w = .ok (113, h) w := by kernel_rfl
theorem methodElem (h : Value) (w : World) : (Go.method 290 125 (.agg #[h]) "Elem").run Tryz.prog w = .ok (125, .agg #[h]) w := by kernel_rfl
theorem methodImplements (h : Value) (w : World) : (Go.method 290 125 (.agg #[h]) "Implements").run Tryz.prog w = .ok (126, .agg #[h]) w := by kernel_rfl
theorem methodAssignableTo (h : Value) (w : World) : (Go.method 290 125 (.agg #[h]) "AssignableTo").run Tryz.prog w = .ok (123, .agg #[h]) w := by kernel_rfl
theorem methodComparable (h : Value) (w : World) : (Go.method 290 125 h "Comparable").run Tryz.prog w = .ok (124, h) w := by kernel_rfl


/-! ### fold.wrong -/
theorem fold_valueOfP (t : Addr) (w : World) : (ReflectliteValue.unpack (.iface 69 (.pointer (some t)))).run Tryz.prog w
    = .ok (.agg #[.pointer (some ⟨9, 69, none⟩), .pointer (some ⟨w.heap.size, 0, none⟩), .int .u64 150]) (w.alloc (.cells #[.pointer (some t)] 69)) := by kernel_rfl
theorem fold_typeP (a : Addr) (w : World) : (ReflectliteValue.methodAny (ReflectliteValue.valueError "reflectlite.Value.Type" 0) (fun t _ _ _ => ReflectliteType.toType t) #[.agg #[.pointer (some ⟨9, 69, none⟩), .pointer (some a), .int .u64 150]]).run Tryz.prog w
    = .ok (.iface 125 (.agg #[.pointer (some ⟨9, 69, none⟩)])) w := by kernel_rfl
theorem fold_kindP (w : World) : ((ReflectliteType.abiMethod fun t => (fun a : Nat => Value.int IntKind.u8 (a : Int)) <$> Rtype.kind t) #[.pointer (some ⟨9, 69, none⟩)]).run Tryz.prog w = .ok (.int .u8 22) w := by kernel_rfl
theorem fold_kindT (w : World) : ((ReflectliteType.abiMethod fun t => (fun a : Nat => Value.int IntKind.u8 (a : Int)) <$> Rtype.kind t) #[.pointer (some ⟨9, 54, none⟩)]).run Tryz.prog w = .ok (.int .u8 25) w := by kernel_rfl
theorem fold_partsP (a : Addr) (w : World) : (ReflectliteValue.parts (.agg #[.pointer (some ⟨9, 69, none⟩), .pointer (some a), .int .u64 150])).run Tryz.prog w = .ok (some (69, a, 150)) w := by kernel_rfl
theorem fold_isNilP (a p : Addr) (W : World) (ha : W.cell? a = some (.pointer (some p))) :
    (ReflectliteValue.method (ReflectliteValue.valueError "reflectlite.Value.IsNil" 0) ReflectliteValue.isNil #[.agg #[.pointer (some ⟨9, 69, none⟩), .pointer (some a), .int .u64 150]]).run Tryz.prog W = .ok (.bool false) W := by
  rw [rlm]
  simp only [Sem.run_bind, fold_partsP, Result.andThen]
  simp [ReflectliteValue.isNil, loadVar, isAgg, underlying, Tryz.underlying69, ha, Result.andThen]
theorem fold_elemP (w : World) : (ReflectliteType.method ReflectliteType.elem #[.agg #[.pointer (some ⟨9, 69, none⟩)]]).run Tryz.prog w = .ok (.iface 125 (.agg #[.pointer (some ⟨9, 54, none⟩)])) w := by kernel_rfl
theorem fold_implementsT (w : World) : (ReflectliteType.relation "Implements" ReflectliteType.implements_ #[.agg #[.pointer (some ⟨9, 54, none⟩)], .iface 125 (.agg #[.pointer (some ⟨9, 39, none⟩)])]).run Tryz.prog w = .ok (.bool true) w := by kernel_rfl
theorem fold_typeOfT (v : Value) (w : World) : (ReflectliteType.typeOf #[.iface 54 v]).run Tryz.prog w = .ok (.iface 125 (.agg #[.pointer (some ⟨9, 54, none⟩)])) w := by kernel_rfl
theorem fold_assignableT (w : World) : (ReflectliteType.relation "AssignableTo" ReflectliteType.assignableTo #[.agg #[.pointer (some ⟨9, 54, none⟩)], .iface 125 (.agg #[.pointer (some ⟨9, 54, none⟩)])]).run Tryz.prog w = .ok (.bool true) w := by kernel_rfl
theorem fold_valueOfT (x : Int) (e : Addr) (w : World) : (ReflectliteValue.unpack (.iface 54 (.agg #[.int .i64 x, .iface 159 (.pointer (some e))]))).run Tryz.prog w
    = .ok (.agg #[.pointer (some ⟨9, 54, none⟩), .pointer (some ⟨w.heap.size, 0, none⟩), .int .u64 153]) (w.alloc (.cells #[.int .i64 x, .iface 159 (.pointer (some e))] 54)) := by kernel_rfl
theorem fold_elemOfP (w : World) : (Rtype.elem? 69).run Tryz.prog w = .ok (some 54) w := by kernel_rfl
theorem fold_mkT (p : Addr) (w : World) : (ReflectliteValue.mk 54 p ReflectliteValue.flagAddr).run Tryz.prog w = .ok (.agg #[.pointer (some ⟨9, 54, none⟩), .pointer (some p), .int .u64 409]) w := by kernel_rfl
theorem fold_elemVP (a p : Addr) (W : World) (ha : W.cell? a = some (.pointer (some p))) :
    (ReflectliteValue.method (ReflectliteValue.valueError "reflectlite.Value.Elem" 0) ReflectliteValue.elem #[.agg #[.pointer (some ⟨9, 69, none⟩), .pointer (some a), .int .u64 150]]).run Tryz.prog W
      = .ok (.agg #[.pointer (some ⟨9, 54, none⟩), .pointer (some p), .int .u64 409]) W := by
  rw [rlm]
  simp only [Sem.run_bind, fold_partsP, Result.andThen]
  simp [ReflectliteValue.elem, loadVar, isAgg, underlying, Tryz.underlying69, ha, Result.andThen, fold_elemOfP, fold_mkT]
theorem fold_partsTa (a : Addr) (w : World) : (ReflectliteValue.parts (.agg #[.pointer (some ⟨9, 54, none⟩), .pointer (some a), .int .u64 409])).run Tryz.prog w = .ok (some (54, a, 409)) w := by kernel_rfl
theorem fold_partsT (a : Addr) (w : World) : (ReflectliteValue.parts (.agg #[.pointer (some ⟨9, 54, none⟩), .pointer (some a), .int .u64 153])).run Tryz.prog w = .ok (some (54, a, 153)) w := by kernel_rfl
theorem fold_directT (w : World) : (Rtype.directlyAssignable 54 54).run Tryz.prog w = .ok true w := by kernel_rfl


/-! ### code.wrong -/
theorem code_valueOfP (t : Addr) (w : World) : (ReflectliteValue.unpack (.iface 145 (.pointer (some t)))).run Tryz.prog w
    = .ok (.agg #[.pointer (some ⟨9, 145, none⟩), .pointer (some ⟨w.heap.size, 0, none⟩), .int .u64 150]) (w.alloc (.cells #[.pointer (some t)] 145)) := by kernel_rfl
theorem code_typeP (a : Addr) (w : World) : (ReflectliteValue.methodAny (ReflectliteValue.valueError "reflectlite.Value.Type" 0) (fun t _ _ _ => ReflectliteType.toType t) #[.agg #[.pointer (some ⟨9, 145, none⟩), .pointer (some a), .int .u64 150]]).run Tryz.prog w
    = .ok (.iface 125 (.agg #[.pointer (some ⟨9, 145, none⟩)])) w := by kernel_rfl
theorem code_kindP (w : World) : ((ReflectliteType.abiMethod fun t => (fun a : Nat => Value.int IntKind.u8 (a : Int)) <$> Rtype.kind t) #[.pointer (some ⟨9, 145, none⟩)]).run Tryz.prog w = .ok (.int .u8 22) w := by kernel_rfl
theorem code_kindT (w : World) : ((ReflectliteType.abiMethod fun t => (fun a : Nat => Value.int IntKind.u8 (a : Int)) <$> Rtype.kind t) #[.pointer (some ⟨9, 144, none⟩)]).run Tryz.prog w = .ok (.int .u8 25) w := by kernel_rfl
theorem code_partsP (a : Addr) (w : World) : (ReflectliteValue.parts (.agg #[.pointer (some ⟨9, 145, none⟩), .pointer (some a), .int .u64 150])).run Tryz.prog w = .ok (some (145, a, 150)) w := by kernel_rfl
theorem code_isNilP (a p : Addr) (W : World) (ha : W.cell? a = some (.pointer (some p))) :
    (ReflectliteValue.method (ReflectliteValue.valueError "reflectlite.Value.IsNil" 0) ReflectliteValue.isNil #[.agg #[.pointer (some ⟨9, 145, none⟩), .pointer (some a), .int .u64 150]]).run Tryz.prog W = .ok (.bool false) W := by
  rw [rlm]
  simp only [Sem.run_bind, code_partsP, Result.andThen]
  simp [ReflectliteValue.isNil, loadVar, isAgg, underlying, Tryz.underlying145, ha, Result.andThen]
theorem code_elemP (w : World) : (ReflectliteType.method ReflectliteType.elem #[.agg #[.pointer (some ⟨9, 145, none⟩)]]).run Tryz.prog w = .ok (.iface 125 (.agg #[.pointer (some ⟨9, 144, none⟩)])) w := by kernel_rfl
theorem code_implementsT (w : World) : (ReflectliteType.relation "Implements" ReflectliteType.implements_ #[.agg #[.pointer (some ⟨9, 144, none⟩)], .iface 125 (.agg #[.pointer (some ⟨9, 39, none⟩)])]).run Tryz.prog w = .ok (.bool true) w := by kernel_rfl
theorem code_typeOfT (v : Value) (w : World) : (ReflectliteType.typeOf #[.iface 144 v]).run Tryz.prog w = .ok (.iface 125 (.agg #[.pointer (some ⟨9, 144, none⟩)])) w := by kernel_rfl
theorem code_assignableT (w : World) : (ReflectliteType.relation "AssignableTo" ReflectliteType.assignableTo #[.agg #[.pointer (some ⟨9, 144, none⟩)], .iface 125 (.agg #[.pointer (some ⟨9, 144, none⟩)])]).run Tryz.prog w = .ok (.bool true) w := by kernel_rfl
theorem code_valueOfT (x : Int) (w : World) : (ReflectliteValue.unpack (.iface 144 (.agg #[.int .i64 x]))).run Tryz.prog w
    = .ok (.agg #[.pointer (some ⟨9, 144, none⟩), .pointer (some ⟨w.heap.size, 0, none⟩), .int .u64 153]) (w.alloc (.cells #[.int .i64 x] 144)) := by kernel_rfl
theorem code_elemOfP (w : World) : (Rtype.elem? 145).run Tryz.prog w = .ok (some 144) w := by kernel_rfl
theorem code_mkT (p : Addr) (w : World) : (ReflectliteValue.mk 144 p ReflectliteValue.flagAddr).run Tryz.prog w = .ok (.agg #[.pointer (some ⟨9, 144, none⟩), .pointer (some p), .int .u64 409]) w := by kernel_rfl
theorem code_elemVP (a p : Addr) (W : World) (ha : W.cell? a = some (.pointer (some p))) :
    (ReflectliteValue.method (ReflectliteValue.valueError "reflectlite.Value.Elem" 0) ReflectliteValue.elem #[.agg #[.pointer (some ⟨9, 145, none⟩), .pointer (some a), .int .u64 150]]).run Tryz.prog W
      = .ok (.agg #[.pointer (some ⟨9, 144, none⟩), .pointer (some p), .int .u64 409]) W := by
  rw [rlm]
  simp only [Sem.run_bind, code_partsP, Result.andThen]
  simp [ReflectliteValue.elem, loadVar, isAgg, underlying, Tryz.underlying145, ha, Result.andThen, code_elemOfP, code_mkT]
theorem code_partsTa (a : Addr) (w : World) : (ReflectliteValue.parts (.agg #[.pointer (some ⟨9, 144, none⟩), .pointer (some a), .int .u64 409])).run Tryz.prog w = .ok (some (144, a, 409)) w := by kernel_rfl
theorem code_partsT (a : Addr) (w : World) : (ReflectliteValue.parts (.agg #[.pointer (some ⟨9, 144, none⟩), .pointer (some a), .int .u64 153])).run Tryz.prog w = .ok (some (144, a, 153)) w := by kernel_rfl
theorem code_directT (w : World) : (Rtype.directlyAssignable 144 144).run Tryz.prog w = .ok true w := by kernel_rfl

end Go.Proofs.YtbocflglknkiaaaGreatDoor
