/- errors.As at each package's 'wrong': it answers true and lays the value into the target. -/
import Derived.Test.YtbocflglknkiaaaGreatDoorErr
namespace Go.Proofs.YtbocflglknkiaaaGreatDoor
open Go.RowKit Go.Extern.Stop Go.Stop Go.Extern


theorem fold_load (x : Int) (e : Addr) (b : Nat) (W : World) (hb0 : W.cell? ⟨b, 0, none⟩ = some (.int .i64 x)) (hb1 : W.cell? ⟨b, 1, none⟩ = some (.iface 159 (.pointer (some e)))) : (loadVar 54 ⟨b, 0, none⟩).run Tryz.prog W = .ok (.agg #[.int .i64 x, .iface 159 (.pointer (some e))]) W := by
  simp [loadVar, isAgg, underlying, Tryz.underlying54, Result.andThen]
  rw [show (loadCells ⟨b, 0, none⟩ 2).run Tryz.prog W = .ok #[.int .i64 x, .iface 159 (.pointer (some e))] W from run_loadCells_list _ ⟨b, 0, none⟩ [.int .i64 x, .iface 159 (.pointer (some e))] (fun j v h => by
    rcases j with _ | _ | j
    · obtain rfl := by simpa using h
      simpa [Addr.add] using hb0
    · obtain rfl := by simpa using h
      simpa [Addr.add] using hb1
    · simp at h)]
theorem fold_store (x : Int) (e : Addr) (t : Nat) (W : World) (o0 : Value) (ht0 : W.cell? ⟨t, 0, none⟩ = some o0) (o1 : Value) (ht1 : W.cell? ⟨t, 1, none⟩ = some o1) (hf : ∀ i, W.frozen? ⟨t, i, none⟩ = false) : (storeVar 54 ⟨t, 0, none⟩ (.agg #[.int .i64 x, .iface 159 (.pointer (some e))])).run Tryz.prog W = .ok () ((W.setCell ⟨t, 0, none⟩ (.int .i64 x)).setCell ⟨t, 1, none⟩ (.iface 159 (.pointer (some e)))) := by
  simp [storeVar, Value.cells, storeCells, Addr.add]
  rw [run_store Tryz.prog W _ _ _ (by rfl)]
  simp only [ht0, hf]
  simp [Result.andThen]
  rw [run_store Tryz.prog _ _ _ _ (by rfl)]
  rw [World.cell?_setCell_other _ _ _ _ (by simp), ht1]
  simp [hf]
theorem fold_set (x : Int) (e : Addr) (t b : Nat) (W : World) (hb0 : W.cell? ⟨b, 0, none⟩ = some (.int .i64 x)) (hb1 : W.cell? ⟨b, 1, none⟩ = some (.iface 159 (.pointer (some e)))) (o0 : Value) (ht0 : W.cell? ⟨t, 0, none⟩ = some o0) (o1 : Value) (ht1 : W.cell? ⟨t, 1, none⟩ = some o1) (hf : ∀ i, W.frozen? ⟨t, i, none⟩ = false) :
    (ReflectliteValue.set #[.agg #[.pointer (some ⟨9, 54, none⟩), .pointer (some ⟨t, 0, none⟩), .int .u64 409], .agg #[.pointer (some ⟨9, 54, none⟩), .pointer (some ⟨b, 0, none⟩), .int .u64 153]]).run Tryz.prog W
      = .ok (.tuple #[]) ((W.setCell ⟨t, 0, none⟩ (.int .i64 x)).setCell ⟨t, 1, none⟩ (.iface 159 (.pointer (some e)))) := by
  rw [rls]
  simp only [Sem.run_bind, fold_partsTa, fold_partsT, Result.andThen]
  simp [ReflectliteValue.flagAddr, Result.andThen, fold_directT, fold_load x e b W hb0 hb1, fold_store x e t W o0 ht0 o1 ht1 hf]

set_option maxHeartbeats 4000000 in
theorem fold_as (x : Int) (e : Addr) (t : Nat) (w : World) (hg : w.cell? ⟨4, 0, none⟩ = some (.iface 125 (.agg #[.pointer (some ⟨9, 39, none⟩)]))) (o0 : Value) (ht0 : w.cell? ⟨t, 0, none⟩ = some o0) (o1 : Value) (ht1 : w.cell? ⟨t, 1, none⟩ = some o1) (hf : ∀ i, w.frozen? ⟨t, i, none⟩ = false) :
    Calls Tryz.prog 31 #[.iface 54 (.agg #[.int .i64 x, .iface 159 (.pointer (some e))]), .iface 69 (.pointer (some ⟨t, 0, none⟩))] w fun ev w' => ev = .returned (.bool true) ∧ w'.cell? ⟨t, 0, none⟩ = some (.int .i64 x) ∧ w'.cell? ⟨t, 1, none⟩ = some (.iface 159 (.pointer (some e))) ∧ Below t w w' := by
  have h6 := @run_callFunc_extern Tryz.prog 52 _ (fun args => ReflectliteValue.unpack (args.getD 0 (.tuple #[]))) Tryz.func52 (by kernel_rfl) (by kernel_rfl) (by kernel_rfl) (by kernel_rfl)
  have h7 := @run_callFunc_extern Tryz.prog 53 _ (ReflectliteValue.methodAny (ReflectliteValue.valueError "reflectlite.Value.Type" 0) (fun t _ _ _ => ReflectliteType.toType t)) Tryz.func53 (by kernel_rfl) (by kernel_rfl) (by kernel_rfl) (by kernel_rfl)
  have h8 := @run_callFunc_extern Tryz.prog 54 _ (ReflectliteValue.method (ReflectliteValue.valueError "reflectlite.Value.IsNil" 0) ReflectliteValue.isNil) Tryz.func54 (by kernel_rfl) (by kernel_rfl) (by kernel_rfl) (by kernel_rfl)
  have h27 := @run_callFunc_extern Tryz.prog 113 _ (ReflectliteType.abiMethod fun t => do pure (.int .u8 (← Rtype.kind t))) Tryz.func113 (by kernel_rfl) (by kernel_rfl) (by kernel_rfl) (by kernel_rfl)
  have h37 := @run_callFunc_extern Tryz.prog 125 _ (ReflectliteType.method ReflectliteType.elem) Tryz.func125 (by kernel_rfl) (by kernel_rfl) (by kernel_rfl) (by kernel_rfl)
  have h38 := @run_callFunc_extern Tryz.prog 126 _ (ReflectliteType.relation "Implements" ReflectliteType.implements_) Tryz.func126 (by kernel_rfl) (by kernel_rfl) (by kernel_rfl) (by kernel_rfl)
  have h10 := @run_callFunc_extern Tryz.prog 56 _ ReflectliteType.typeOf Tryz.func56 (by kernel_rfl) (by kernel_rfl) (by kernel_rfl) (by kernel_rfl)
  have h35 := @run_callFunc_extern Tryz.prog 123 _ (ReflectliteType.relation "AssignableTo" ReflectliteType.assignableTo) Tryz.func123 (by kernel_rfl) (by kernel_rfl) (by kernel_rfl) (by kernel_rfl)
  have h11 := @run_callFunc_extern Tryz.prog 79 _ (ReflectliteValue.method (ReflectliteValue.valueError "reflectlite.Value.Elem" 0) ReflectliteValue.elem) Tryz.func79 (by kernel_rfl) (by kernel_rfl) (by kernel_rfl) (by kernel_rfl)
  have h12 := @run_callFunc_extern Tryz.prog 80 _ ReflectliteValue.set Tryz.func80 (by kernel_rfl) (by kernel_rfl) (by kernel_rfl) (by kernel_rfl)
  have tO := fold_typeOfT
  have mA := methodAssignableTo
  have a25 := fold_assignableT
  have v25 := fold_valueOfT
  have f6 := fold_valueOfP
  have f7 := fold_typeP
  have mK := methodKind
  have mE := methodElem
  have mI := methodImplements
  have k27 := fold_kindP
  have k25 := fold_kindT
  have e27 := fold_elemP
  have i25 := fold_implementsT
  have htl : t < w.heap.size := cell_lt ht0
  have htl1 : t < w.heap.size + 1 := by omega
  have htl2 : t < w.heap.size + 1 + 1 := by omega
  have htl3 : t < w.heap.size + 1 + 1 + 1 := by omega
  have hlt : 4 < w.heap.size := cell_lt hg
  have n8 := fold_isNilP ⟨w.heap.size, 0, none⟩ ⟨t, 0, none⟩ ((w.alloc (.cells #[.pointer (some ⟨t, 0, none⟩)] 69)).alloc (.cells #[.pointer (some ⟨9, 69, none⟩), .pointer (some ⟨w.heap.size, 0, none⟩), .int .u64 150] 102)) (by simp)
  have hg2 : ((w.alloc (.cells #[.pointer (some ⟨t, 0, none⟩)] 69)).alloc (.cells #[.pointer (some ⟨9, 69, none⟩), .pointer (some ⟨w.heap.size, 0, none⟩), .int .u64 150] 102)).cell? ⟨4, 0, none⟩ = some (.iface 125 (.agg #[.pointer (some ⟨9, 39, none⟩)])) := by
    rw [World.cell?_alloc_lt _ _ ⟨_, 0, none⟩ (by simp; omega), World.cell?_alloc_lt _ _ ⟨_, 0, none⟩ hlt]; exact hg
  have el := fold_elemVP ⟨w.heap.size, 0, none⟩ ⟨t, 0, none⟩ (((w.alloc (.cells #[.pointer (some ⟨t, 0, none⟩)] 69)).alloc (.cells #[.pointer (some ⟨9, 69, none⟩), .pointer (some ⟨w.heap.size, 0, none⟩), .int .u64 150] 102)).alloc (.cells #[.pointer (some ⟨9, 69, none⟩), .pointer (some ⟨w.heap.size, 0, none⟩), .int .u64 150] 102)) (by rw [World.cell?_alloc_lt _ _ ⟨w.heap.size, 0, none⟩ (by simp; omega)]; simp)
  have st := fold_set x e t (w.heap.size + 1 + 1 + 1) ((((w.alloc (.cells #[.pointer (some ⟨t, 0, none⟩)] 69)).alloc (.cells #[.pointer (some ⟨9, 69, none⟩), .pointer (some ⟨w.heap.size, 0, none⟩), .int .u64 150] 102)).alloc (.cells #[.pointer (some ⟨9, 69, none⟩), .pointer (some ⟨w.heap.size, 0, none⟩), .int .u64 150] 102)).alloc (.cells #[.int .i64 x, .iface 159 (.pointer (some e))] 54))
    (by rw [World.cell?_alloc_at _ _ _ _ (by simp)]; rfl) (by rw [World.cell?_alloc_at _ _ _ _ (by simp)]; rfl) o0 (by rw [World.cell?_alloc_lt _ _ ⟨t, 0, none⟩ (by simp; omega), World.cell?_alloc_lt _ _ ⟨t, 0, none⟩ (by simp; omega), World.cell?_alloc_lt _ _ ⟨t, 0, none⟩ (by simp; omega), World.cell?_alloc_lt _ _ ⟨t, 0, none⟩ htl]; exact ht0) o1 (by rw [World.cell?_alloc_lt _ _ ⟨t, 1, none⟩ (by simp; omega), World.cell?_alloc_lt _ _ ⟨t, 1, none⟩ (by simp; omega), World.cell?_alloc_lt _ _ ⟨t, 1, none⟩ (by simp; omega), World.cell?_alloc_lt _ _ ⟨t, 1, none⟩ htl]; exact ht1)
    (fun i => by rw [World.frozen?_alloc_old _ _ ⟨t, i, none⟩ (by simp; omega), World.frozen?_alloc_old _ _ ⟨t, i, none⟩ (by simp; omega), World.frozen?_alloc_old _ _ ⟨t, i, none⟩ (by simp; omega), World.frozen?_alloc_old _ _ ⟨t, i, none⟩ (Nat.ne_of_lt htl)]; exact hf i)
  go_enter Tryz.func31, Tryz.ntmps31
  go_wp2
  refine wp_loop_rounds 1 ?_
  rw [rounds_succ]
  go_wp2
  go_ret
  refine ⟨rfl, ?_⟩
  refine ⟨?_, ?_, ?_⟩
  · rw [World.cell?_alloc_lt _ _ ⟨t, 0, none⟩ (by simp; omega), World.cell?_alloc_lt _ _ ⟨t, 0, none⟩ (by simp; omega), World.cell?_alloc_lt _ _ ⟨t, 0, none⟩ (by simp; omega), World.cell?_alloc_lt _ _ ⟨t, 0, none⟩ (by simp; omega)]
    rw [World.cell?_setCell_other _ _ _ _ (by simp), World.cell?_setCell_same _ _ _ ht0]
  · rw [World.cell?_alloc_lt _ _ ⟨t, 1, none⟩ (by simp; omega), World.cell?_alloc_lt _ _ ⟨t, 1, none⟩ (by simp; omega), World.cell?_alloc_lt _ _ ⟨t, 1, none⟩ (by simp; omega), World.cell?_alloc_lt _ _ ⟨t, 1, none⟩ (by simp; omega)]
    rw [World.cell?_setCell_same _ _ _ (u := o1) (by rw [World.cell?_setCell_other _ _ _ _ (by simp), ht1])]
  · exact ((((((Below.refl _ _).setCell (p := ⟨t, 0, none⟩) (Nat.le_refl _) _).setCell (p := ⟨t, 1, none⟩) (Nat.le_refl _) _).alloc (by simp; omega) _).alloc (by simp; omega) _).alloc (by simp; omega) _).alloc (by simp; omega) _


theorem code_load (x : Int) (b : Nat) (W : World) (hb0 : W.cell? ⟨b, 0, none⟩ = some (.int .i64 x)) : (loadVar 144 ⟨b, 0, none⟩).run Tryz.prog W = .ok (.agg #[.int .i64 x]) W := by
  simp [loadVar, isAgg, underlying, Tryz.underlying144, Result.andThen]
  rw [show (loadCells ⟨b, 0, none⟩ 1).run Tryz.prog W = .ok #[.int .i64 x] W from run_loadCells_list _ ⟨b, 0, none⟩ [.int .i64 x] (fun j v h => by
    rcases j with _ | j
    · obtain rfl := by simpa using h
      simpa [Addr.add] using hb0
    · simp at h)]
theorem code_store (x : Int) (t : Nat) (W : World) (o0 : Value) (ht0 : W.cell? ⟨t, 0, none⟩ = some o0) (hf : ∀ i, W.frozen? ⟨t, i, none⟩ = false) : (storeVar 144 ⟨t, 0, none⟩ (.agg #[.int .i64 x])).run Tryz.prog W = .ok () (W.setCell ⟨t, 0, none⟩ (.int .i64 x)) := by
  simp [storeVar, Value.cells, storeCells, Addr.add]
  rw [run_store Tryz.prog W _ _ _ (by rfl)]
  simp [ht0, hf]
theorem code_set (x : Int) (t b : Nat) (W : World) (hb0 : W.cell? ⟨b, 0, none⟩ = some (.int .i64 x)) (o0 : Value) (ht0 : W.cell? ⟨t, 0, none⟩ = some o0) (hf : ∀ i, W.frozen? ⟨t, i, none⟩ = false) :
    (ReflectliteValue.set #[.agg #[.pointer (some ⟨9, 144, none⟩), .pointer (some ⟨t, 0, none⟩), .int .u64 409], .agg #[.pointer (some ⟨9, 144, none⟩), .pointer (some ⟨b, 0, none⟩), .int .u64 153]]).run Tryz.prog W
      = .ok (.tuple #[]) (W.setCell ⟨t, 0, none⟩ (.int .i64 x)) := by
  rw [rls]
  simp only [Sem.run_bind, code_partsTa, code_partsT, Result.andThen]
  simp [ReflectliteValue.flagAddr, Result.andThen, code_directT, code_load x b W hb0, code_store x t W o0 ht0 hf]

set_option maxHeartbeats 4000000 in
theorem code_as (x : Int) (t : Nat) (w : World) (hg : w.cell? ⟨4, 0, none⟩ = some (.iface 125 (.agg #[.pointer (some ⟨9, 39, none⟩)]))) (o0 : Value) (ht0 : w.cell? ⟨t, 0, none⟩ = some o0) (hf : ∀ i, w.frozen? ⟨t, i, none⟩ = false) :
    Calls Tryz.prog 31 #[.iface 144 (.agg #[.int .i64 x]), .iface 145 (.pointer (some ⟨t, 0, none⟩))] w fun ev w' => ev = .returned (.bool true) ∧ w'.cell? ⟨t, 0, none⟩ = some (.int .i64 x) ∧ Below t w w' := by
  have h6 := @run_callFunc_extern Tryz.prog 52 _ (fun args => ReflectliteValue.unpack (args.getD 0 (.tuple #[]))) Tryz.func52 (by kernel_rfl) (by kernel_rfl) (by kernel_rfl) (by kernel_rfl)
  have h7 := @run_callFunc_extern Tryz.prog 53 _ (ReflectliteValue.methodAny (ReflectliteValue.valueError "reflectlite.Value.Type" 0) (fun t _ _ _ => ReflectliteType.toType t)) Tryz.func53 (by kernel_rfl) (by kernel_rfl) (by kernel_rfl) (by kernel_rfl)
  have h8 := @run_callFunc_extern Tryz.prog 54 _ (ReflectliteValue.method (ReflectliteValue.valueError "reflectlite.Value.IsNil" 0) ReflectliteValue.isNil) Tryz.func54 (by kernel_rfl) (by kernel_rfl) (by kernel_rfl) (by kernel_rfl)
  have h27 := @run_callFunc_extern Tryz.prog 113 _ (ReflectliteType.abiMethod fun t => do pure (.int .u8 (← Rtype.kind t))) Tryz.func113 (by kernel_rfl) (by kernel_rfl) (by kernel_rfl) (by kernel_rfl)
  have h37 := @run_callFunc_extern Tryz.prog 125 _ (ReflectliteType.method ReflectliteType.elem) Tryz.func125 (by kernel_rfl) (by kernel_rfl) (by kernel_rfl) (by kernel_rfl)
  have h38 := @run_callFunc_extern Tryz.prog 126 _ (ReflectliteType.relation "Implements" ReflectliteType.implements_) Tryz.func126 (by kernel_rfl) (by kernel_rfl) (by kernel_rfl) (by kernel_rfl)
  have h10 := @run_callFunc_extern Tryz.prog 56 _ ReflectliteType.typeOf Tryz.func56 (by kernel_rfl) (by kernel_rfl) (by kernel_rfl) (by kernel_rfl)
  have h35 := @run_callFunc_extern Tryz.prog 123 _ (ReflectliteType.relation "AssignableTo" ReflectliteType.assignableTo) Tryz.func123 (by kernel_rfl) (by kernel_rfl) (by kernel_rfl) (by kernel_rfl)
  have h11 := @run_callFunc_extern Tryz.prog 79 _ (ReflectliteValue.method (ReflectliteValue.valueError "reflectlite.Value.Elem" 0) ReflectliteValue.elem) Tryz.func79 (by kernel_rfl) (by kernel_rfl) (by kernel_rfl) (by kernel_rfl)
  have h12 := @run_callFunc_extern Tryz.prog 80 _ ReflectliteValue.set Tryz.func80 (by kernel_rfl) (by kernel_rfl) (by kernel_rfl) (by kernel_rfl)
  have tO := code_typeOfT
  have mA := methodAssignableTo
  have a25 := code_assignableT
  have v25 := code_valueOfT
  have f6 := code_valueOfP
  have f7 := code_typeP
  have mK := methodKind
  have mE := methodElem
  have mI := methodImplements
  have k27 := code_kindP
  have k25 := code_kindT
  have e27 := code_elemP
  have i25 := code_implementsT
  have htl : t < w.heap.size := cell_lt ht0
  have htl1 : t < w.heap.size + 1 := by omega
  have htl2 : t < w.heap.size + 1 + 1 := by omega
  have htl3 : t < w.heap.size + 1 + 1 + 1 := by omega
  have hlt : 4 < w.heap.size := cell_lt hg
  have n8 := code_isNilP ⟨w.heap.size, 0, none⟩ ⟨t, 0, none⟩ ((w.alloc (.cells #[.pointer (some ⟨t, 0, none⟩)] 145)).alloc (.cells #[.pointer (some ⟨9, 145, none⟩), .pointer (some ⟨w.heap.size, 0, none⟩), .int .u64 150] 102)) (by simp)
  have hg2 : ((w.alloc (.cells #[.pointer (some ⟨t, 0, none⟩)] 145)).alloc (.cells #[.pointer (some ⟨9, 145, none⟩), .pointer (some ⟨w.heap.size, 0, none⟩), .int .u64 150] 102)).cell? ⟨4, 0, none⟩ = some (.iface 125 (.agg #[.pointer (some ⟨9, 39, none⟩)])) := by
    rw [World.cell?_alloc_lt _ _ ⟨_, 0, none⟩ (by simp; omega), World.cell?_alloc_lt _ _ ⟨_, 0, none⟩ hlt]; exact hg
  have el := code_elemVP ⟨w.heap.size, 0, none⟩ ⟨t, 0, none⟩ (((w.alloc (.cells #[.pointer (some ⟨t, 0, none⟩)] 145)).alloc (.cells #[.pointer (some ⟨9, 145, none⟩), .pointer (some ⟨w.heap.size, 0, none⟩), .int .u64 150] 102)).alloc (.cells #[.pointer (some ⟨9, 145, none⟩), .pointer (some ⟨w.heap.size, 0, none⟩), .int .u64 150] 102)) (by rw [World.cell?_alloc_lt _ _ ⟨w.heap.size, 0, none⟩ (by simp; omega)]; simp)
  have st := code_set x t (w.heap.size + 1 + 1 + 1) ((((w.alloc (.cells #[.pointer (some ⟨t, 0, none⟩)] 145)).alloc (.cells #[.pointer (some ⟨9, 145, none⟩), .pointer (some ⟨w.heap.size, 0, none⟩), .int .u64 150] 102)).alloc (.cells #[.pointer (some ⟨9, 145, none⟩), .pointer (some ⟨w.heap.size, 0, none⟩), .int .u64 150] 102)).alloc (.cells #[.int .i64 x] 144))
    (by rw [World.cell?_alloc_at _ _ _ _ (by simp)]; rfl)  o0 (by rw [World.cell?_alloc_lt _ _ ⟨t, 0, none⟩ (by simp; omega), World.cell?_alloc_lt _ _ ⟨t, 0, none⟩ (by simp; omega), World.cell?_alloc_lt _ _ ⟨t, 0, none⟩ (by simp; omega), World.cell?_alloc_lt _ _ ⟨t, 0, none⟩ htl]; exact ht0) 
    (fun i => by rw [World.frozen?_alloc_old _ _ ⟨t, i, none⟩ (by simp; omega), World.frozen?_alloc_old _ _ ⟨t, i, none⟩ (by simp; omega), World.frozen?_alloc_old _ _ ⟨t, i, none⟩ (by simp; omega), World.frozen?_alloc_old _ _ ⟨t, i, none⟩ (Nat.ne_of_lt htl)]; exact hf i)
  go_enter Tryz.func31, Tryz.ntmps31
  go_wp2
  refine wp_loop_rounds 1 ?_
  rw [rounds_succ]
  go_wp2
  go_ret
  refine ⟨rfl, ?_⟩
  refine ⟨?_, ?_⟩
  · rw [World.cell?_alloc_lt _ _ ⟨t, 0, none⟩ (by simp; omega), World.cell?_alloc_lt _ _ ⟨t, 0, none⟩ (by simp; omega), World.cell?_alloc_lt _ _ ⟨t, 0, none⟩ (by simp; omega), World.cell?_alloc_lt _ _ ⟨t, 0, none⟩ (by simp; omega)]
    rw [World.cell?_setCell_same _ _ _ ht0]
  · exact (((((Below.refl _ _).setCell (p := ⟨t, 0, none⟩) (Nat.le_refl _) _).alloc (by simp; omega) _).alloc (by simp; omega) _).alloc (by simp; omega) _).alloc (by simp; omega) _

end Go.Proofs.YtbocflglknkiaaaGreatDoor
