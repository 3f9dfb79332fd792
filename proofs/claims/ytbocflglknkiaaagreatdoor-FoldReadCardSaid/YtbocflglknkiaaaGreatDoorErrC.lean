/- errors.Is, of nil and of each package's 'wrong', at a sentinel: whether the sentinel that is wrapped is that one. -/
import Derived.Test.YtbocflglknkiaaaGreatDoorErr
namespace Go.Proofs.YtbocflglknkiaaaGreatDoor
open Go.RowKit Go.Extern.Stop Go.Stop Go.Extern

theorem isTypeOf (v : Value) (w : World) : (Extern.ReflectliteType.typeOf #[.iface 159 v]).run Tryz.prog w = .ok (.iface 125 (.agg #[.pointer (some ⟨9, 159, none⟩)])) w := by kernel_rfl
def cmpFn : Array Value → Sem Value := ReflectliteType.method fun t => do Rtype.noPackHeld "Comparable" t; pure (.bool (← typeInfo t).comparable)
theorem isComparable (w : World) : (cmpFn #[.agg #[.pointer (some ⟨9, 159, none⟩)]]).run Tryz.prog w = .ok (.bool true) w := by kernel_rfl
theorem isComp : (Tryz.prog.info? 159).map (·.comparable) = some true := by kernel_rfl
theorem isSize : (Tryz.prog.info? 178).map (·.size) = some 1 := by kernel_rfl
theorem noIsE (v : Value) (xT : TypeId) (w : World) : (Instr.typeAssert (.iface 159 v) xT 137 true).run Tryz.prog w = .ok (.tuple #[.nilIface, .bool false]) w := run_typeAssert_lacksB Tryz.underlying137 (by kernel_rfl) (by kernel_rfl) v xT w
theorem noUnwrapE (v : Value) (xT : TypeId) (w : World) : (Instr.typeAssert (.iface 159 v) xT 132 true).run Tryz.prog w = .ok (.tuple #[.nilIface, .bool false]) w := run_typeAssert_lacksB Tryz.underlying132 (by kernel_rfl) (by kernel_rfl) v xT w
theorem noUnwrapsE (v : Value) (xT : TypeId) (w : World) : (Instr.typeAssert (.iface 159 v) xT 134 true).run Tryz.prog w = .ok (.tuple #[.nilIface, .bool false]) w := run_typeAssert_lacksB Tryz.underlying134 (by kernel_rfl) (by kernel_rfl) v xT w

/-- errors.Is(nil, x). -/
theorem is_nil (b : Addr) (w : World) :
    Calls Tryz.prog 32 #[.nilIface, .iface 159 (.pointer (some b))] w fun e w' => e = .returned (.bool false) ∧ w = w' := by
  have hn := run_eql_iface_nil_left (P := Tryz.prog) w 159 (.pointer (some b)) Tryz.underlying39
  go_enter Tryz.func32, Tryz.ntmps32
  go_wp2
  go_ret
  exact ⟨rfl, rfl⟩


/-! ### fold.wrong -/
theorem fold_noIs (v : Value) (xT : TypeId) (w : World) : (Instr.typeAssert (.iface 54 v) xT 137 true).run Tryz.prog w = .ok (.tuple #[.nilIface, .bool false]) w := run_typeAssert_lacksB Tryz.underlying137 (by kernel_rfl) (by kernel_rfl) v xT w
theorem fold_hasUnwrap (v : Value) (xT : TypeId) (w : World) : (Instr.typeAssert (.iface 54 v) xT 132 true).run Tryz.prog w = .ok (.tuple #[.iface 54 v, .bool true]) w := run_typeAssert_hasB Tryz.underlying132 (by kernel_rfl) v xT w
theorem fold_methodUnwrap (v : Value) (w : World) : (Go.method 290 54 v "Unwrap").run Tryz.prog w = .ok (118, v) w := by kernel_rfl
set_option maxHeartbeats 1000000 in
theorem fold_is (x : Int) (e : Addr) (w : World) :
    Calls Tryz.prog 32 #[.iface 54 (.agg #[.int .i64 x, .iface 159 (.pointer (some e))]), .iface 159 (.pointer (some e))] w fun v w' => v = .returned (.bool true) ∧ Below w.heap.size w w' := by
  obtain ⟨i, hi, hcmp⟩ := Option.map_eq_some_iff.1 isComp
  obtain ⟨j, hj, hjs⟩ := Option.map_eq_some_iff.1 isSize
  have h8 := @run_callFunc_extern Tryz.prog 56 _ Extern.ReflectliteType.typeOf Tryz.func56 (by kernel_rfl) (by kernel_rfl) (by kernel_rfl) (by kernel_rfl)
  have h32 := @run_callFunc_extern Tryz.prog 124 _ cmpFn Tryz.func124 (by kernel_rfl) (by kernel_rfl) (by kernel_rfl) (by kernel_rfl)
  have tT := isTypeOf
  have cT := isComparable
  have mR := methodComparable
  have nE := noIsE
  have uE := noUnwrapE
  have vE := noUnwrapsE
  have nW := fold_noIs
  have uW := fold_hasUnwrap
  have mU := fold_methodUnwrap
  have hty := run_eql_iface_types (P := Tryz.prog) 54 159 (.agg #[.int .i64 x, .iface 159 (.pointer (some e))]) (.pointer (some e)) Tryz.underlying39 (by decide) w
  have heq := run_eql_iface_ptr_same (P := Tryz.prog) (w.alloc (.cells #[.int .i64 x, .iface 159 (.pointer (some e))] 54)) e Tryz.underlying39 Tryz.underlying159 hi hcmp hj
  go_enter Tryz.func32, Tryz.ntmps32
  go_wp2
  refine wp_loop_rounds 2 ?_
  rw [rounds_succ]
  go_wp2
  rw [rounds_succ]
  go_wp2
  go_ret
  exact ⟨rfl, (Below.refl _ _).alloc (Nat.le_refl _) _⟩
set_option maxHeartbeats 1000000 in
theorem fold_isNot (x : Int) (e b : Addr) (ca cb : Array Value) (ta tb : TypeId) (w : World) (hne : e ≠ b) (ha : w.heap[e.block]? = some (.cells ca ta (0, 0))) (hb : w.heap[b.block]? = some (.cells cb tb (0, 0))) :
    Calls Tryz.prog 32 #[.iface 54 (.agg #[.int .i64 x, .iface 159 (.pointer (some e))]), .iface 159 (.pointer (some b))] w fun v w' => v = .returned (.bool false) ∧ Below w.heap.size w w' := by
  obtain ⟨i, hi, hcmp⟩ := Option.map_eq_some_iff.1 isComp
  obtain ⟨j, hj, hjs⟩ := Option.map_eq_some_iff.1 isSize
  have h8 := @run_callFunc_extern Tryz.prog 56 _ Extern.ReflectliteType.typeOf Tryz.func56 (by kernel_rfl) (by kernel_rfl) (by kernel_rfl) (by kernel_rfl)
  have h32 := @run_callFunc_extern Tryz.prog 124 _ cmpFn Tryz.func124 (by kernel_rfl) (by kernel_rfl) (by kernel_rfl) (by kernel_rfl)
  have tT := isTypeOf
  have cT := isComparable
  have mR := methodComparable
  have nE := noIsE
  have uE := noUnwrapE
  have vE := noUnwrapsE
  have nW := fold_noIs
  have uW := fold_hasUnwrap
  have mU := fold_methodUnwrap
  have hty := run_eql_iface_types (P := Tryz.prog) 54 159 (.agg #[.int .i64 x, .iface 159 (.pointer (some e))]) (.pointer (some b)) Tryz.underlying39 (by decide) w
  have ha1 : (w.alloc (.cells #[.int .i64 x, .iface 159 (.pointer (some e))] 54)).heap[e.block]? = some (.cells ca ta (0, 0)) := Below.heap_alloc w _ _ (Array.getElem?_eq_some_iff.1 ha).1 |>.trans ha
  have hb1 : (w.alloc (.cells #[.int .i64 x, .iface 159 (.pointer (some e))] 54)).heap[b.block]? = some (.cells cb tb (0, 0)) := Below.heap_alloc w _ _ (Array.getElem?_eq_some_iff.1 hb).1 |>.trans hb
  have heq := run_eql_iface_ptr_other (P := Tryz.prog) (w.alloc (.cells #[.int .i64 x, .iface 159 (.pointer (some e))] 54)) Tryz.underlying39 Tryz.underlying159 hi hcmp hj (by rw [hjs]; decide) hne ha1 hb1
  clear ha hb ha1 hb1
  go_enter Tryz.func32, Tryz.ntmps32
  go_wp2
  refine wp_loop_rounds 2 ?_
  rw [rounds_succ]
  go_wp2
  rw [rounds_succ]
  go_wp2
  go_ret
  exact ⟨rfl, (Below.refl _ _).alloc (Nat.le_refl _) _⟩


/-! ### code.wrong -/
theorem code_noIs (v : Value) (xT : TypeId) (w : World) : (Instr.typeAssert (.iface 144 v) xT 137 true).run Tryz.prog w = .ok (.tuple #[.nilIface, .bool false]) w := run_typeAssert_lacksB Tryz.underlying137 (by kernel_rfl) (by kernel_rfl) v xT w
theorem code_hasUnwrap (v : Value) (xT : TypeId) (w : World) : (Instr.typeAssert (.iface 144 v) xT 132 true).run Tryz.prog w = .ok (.tuple #[.iface 144 v, .bool true]) w := run_typeAssert_hasB Tryz.underlying132 (by kernel_rfl) v xT w
theorem code_methodUnwrap (v : Value) (w : World) : (Go.method 290 144 v "Unwrap").run Tryz.prog w = .ok (134, v) w := by kernel_rfl
set_option maxHeartbeats 1000000 in
theorem code_is (x : Int) (e : Addr) (w : World) (hs : w.cell? ⟨5, 0, none⟩ = some (.iface 159 (.pointer (some e)))) :
    Calls Tryz.prog 32 #[.iface 144 (.agg #[.int .i64 x]), .iface 159 (.pointer (some e))] w fun v w' => v = .returned (.bool true) ∧ Below w.heap.size w w' := by
  obtain ⟨i, hi, hcmp⟩ := Option.map_eq_some_iff.1 isComp
  obtain ⟨j, hj, hjs⟩ := Option.map_eq_some_iff.1 isSize
  have h8 := @run_callFunc_extern Tryz.prog 56 _ Extern.ReflectliteType.typeOf Tryz.func56 (by kernel_rfl) (by kernel_rfl) (by kernel_rfl) (by kernel_rfl)
  have h32 := @run_callFunc_extern Tryz.prog 124 _ cmpFn Tryz.func124 (by kernel_rfl) (by kernel_rfl) (by kernel_rfl) (by kernel_rfl)
  have tT := isTypeOf
  have cT := isComparable
  have mR := methodComparable
  have nE := noIsE
  have uE := noUnwrapE
  have vE := noUnwrapsE
  have nW := code_noIs
  have uW := code_hasUnwrap
  have mU := code_methodUnwrap
  have hty := run_eql_iface_types (P := Tryz.prog) 144 159 (.agg #[.int .i64 x]) (.pointer (some e)) Tryz.underlying39 (by decide) w
  have heq := run_eql_iface_ptr_same (P := Tryz.prog) (w.alloc (.cells #[.int .i64 x] 144)) e Tryz.underlying39 Tryz.underlying159 hi hcmp hj
  have hs1 : (w.alloc (.cells #[.int .i64 x] 144)).cell? ⟨5, 0, none⟩ = some (.iface 159 (.pointer (some e))) := by rw [World.cell?_alloc_lt _ _ ⟨_, 0, none⟩ (cell_lt hs)]; exact hs
  go_enter Tryz.func32, Tryz.ntmps32
  go_wp2
  refine wp_loop_rounds 2 ?_
  rw [rounds_succ]
  go_wp2
  rw [rounds_succ]
  go_wp2
  go_ret
  exact ⟨rfl, (Below.refl _ _).alloc (Nat.le_refl _) _⟩
set_option maxHeartbeats 1000000 in
theorem code_isNot (x : Int) (e b : Addr) (ca cb : Array Value) (ta tb : TypeId) (w : World) (hs : w.cell? ⟨5, 0, none⟩ = some (.iface 159 (.pointer (some e)))) (hne : e ≠ b) (ha : w.heap[e.block]? = some (.cells ca ta (0, 0))) (hb : w.heap[b.block]? = some (.cells cb tb (0, 0))) :
    Calls Tryz.prog 32 #[.iface 144 (.agg #[.int .i64 x]), .iface 159 (.pointer (some b))] w fun v w' => v = .returned (.bool false) ∧ Below w.heap.size w w' := by
  obtain ⟨i, hi, hcmp⟩ := Option.map_eq_some_iff.1 isComp
  obtain ⟨j, hj, hjs⟩ := Option.map_eq_some_iff.1 isSize
  have h8 := @run_callFunc_extern Tryz.prog 56 _ Extern.ReflectliteType.typeOf Tryz.func56 (by kernel_rfl) (by kernel_rfl) (by kernel_rfl) (by kernel_rfl)
  have h32 := @run_callFunc_extern Tryz.prog 124 _ cmpFn Tryz.func124 (by kernel_rfl) (by kernel_rfl) (by kernel_rfl) (by kernel_rfl)
  have tT := isTypeOf
  have cT := isComparable
  have mR := methodComparable
  have nE := noIsE
  have uE := noUnwrapE
  have vE := noUnwrapsE
  have nW := code_noIs
  have uW := code_hasUnwrap
  have mU := code_methodUnwrap
  have hty := run_eql_iface_types (P := Tryz.prog) 144 159 (.agg #[.int .i64 x]) (.pointer (some b)) Tryz.underlying39 (by decide) w
  have ha1 : (w.alloc (.cells #[.int .i64 x] 144)).heap[e.block]? = some (.cells ca ta (0, 0)) := Below.heap_alloc w _ _ (Array.getElem?_eq_some_iff.1 ha).1 |>.trans ha
  have hb1 : (w.alloc (.cells #[.int .i64 x] 144)).heap[b.block]? = some (.cells cb tb (0, 0)) := Below.heap_alloc w _ _ (Array.getElem?_eq_some_iff.1 hb).1 |>.trans hb
  have heq := run_eql_iface_ptr_other (P := Tryz.prog) (w.alloc (.cells #[.int .i64 x] 144)) Tryz.underlying39 Tryz.underlying159 hi hcmp hj (by rw [hjs]; decide) hne ha1 hb1
  have hs1 : (w.alloc (.cells #[.int .i64 x] 144)).cell? ⟨5, 0, none⟩ = some (.iface 159 (.pointer (some e))) := by rw [World.cell?_alloc_lt _ _ ⟨_, 0, none⟩ (cell_lt hs)]; exact hs
  clear ha hb ha1 hb1
  go_enter Tryz.func32, Tryz.ntmps32
  go_wp2
  refine wp_loop_rounds 2 ?_
  rw [rounds_succ]
  go_wp2
  rw [rounds_succ]
  go_wp2
  go_ret
  exact ⟨rfl, (Below.refl _ _).alloc (Nat.le_refl _) _⟩

end Go.Proofs.YtbocflglknkiaaaGreatDoor
