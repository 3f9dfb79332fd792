/- A world that meets the row's condition: the listed variables hold what they read as. -/
import Derived.Test.YtbocflglknkiaaaGreatDoorEnvOf
import Derived.Lay
import Derived.LaidMore
namespace Go.Proofs.YtbocflglknkiaaaGreatDoor
open Go.RowKit Go.Shelf Go.ChangeShapes Go.WideShapes

theorem own : ownKnob Tryz.prog.godebug = none := by kernel_rfl
/-- The type's handle in its variable. -/
noncomputable def base0 (os : Os) : World :=
  { World.holding Tryz.prog os ⟨#[], #[], []⟩ with heap := (World.holding Tryz.prog os ⟨#[], #[], []⟩).heap.modify 4 fun
      | .cells _ t frozen => .cells #[.iface 125 (.agg #[.pointer (some ⟨9, 39, none⟩)])] t frozen
      | o => o }
noncomputable def witW (os : Os) : World := (base0 os).layVars Tryz.prog laidP
theorem witW_os (os : Os) : (witW os).os = os := World.layVars_os _ _ _
theorem witW_laid (os : Os) (args : Array Value) : laidMetH Tryz.prog laidAll ((witW os).forCall (fun _ _ => 0) ⟨#[], args, []⟩).memory := by
  have e1 : (laidP.filter fun x => (laidP.map (·.1)).contains x.1) = laidP := List.filter_eq_self.2 fun x hx => List.contains_iff_mem.2 (List.mem_map.2 ⟨x, hx, rfl⟩)
  have e2 : (laidP.filter fun x => !(laidP.map (·.1)).contains x.1) = [] := List.filter_eq_nil_iff.2 fun x hx => by rw [List.contains_iff_mem.2 (List.mem_map.2 ⟨x, hx, rfl⟩)]; simp
  have h : laidMet Tryz.prog laidP (witW os) := laidMet_layVars (w0 := base0 os) (laidP.map (·.1)) [] (by rw [e1]; rfl) (by rw [e1]; kernel_rfl) (by rw [e1]; kernel_rfl) (by rw [e2]; exact LaidIn.none)
  have h2 : laidMet Tryz.prog laidP ((witW os).forCall (fun _ _ => 0) ⟨#[], args, []⟩).memory := h.of_heap (by simp [World.memory, World.forCall, Input.heap])
  exact ⟨h2, handlesMet_of_B (by kernel_rfl)⟩
end Go.Proofs.YtbocflglknkiaaaGreatDoor
