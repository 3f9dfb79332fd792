/- Each package's 'told', of nil and of each error that it makes: the error's number. -/
import Derived.Test.YtbocflglknkiaaaGreatDoorEnv
namespace Go.Proofs.YtbocflglknkiaaaGreatDoor
open Go.RowKit


theorem fold_told_nil (w : World) : Calls Tryz.prog 19 #[.nilIface] w fun e w' => e = .returned (.int .i64 0) ∧ Below w.heap.size w w' := by
  go_enter Tryz.func19, Tryz.ntmps19
  go_wp2_with (go_at_call 31; refine (as_nil _ _).mono ?_; rintro e w' ⟨rfl, rfl⟩)
  go_ret
  exact ⟨rfl, (Below.refl _ _).alloc (Nat.le_refl _) _⟩

set_option maxHeartbeats 1000000 in
theorem fold_told_errLarge (G : Nat → Addr) (x : Int) (w : World) (hE : Env G w) : Calls Tryz.prog 19 #[.iface 54 (.agg #[.int .i64 x, .iface 159 (.pointer (some (G 0)))])] w fun e w' => e = .returned (.int .i64 131) ∧ Below w.heap.size w w' := by
  have hE1 : Env G (w.alloc (.cells #[.int .i64 0, .nilIface] 54)) := hE.below ((Below.refl _ _).alloc (Nat.le_refl _) _)
  go_enter Tryz.func19, Tryz.ntmps19
  go_wp2_with fail
  refine (fold_as x (G 0) w.heap.size _ hE1.errT (.int .i64 0) (by simp) .nilIface (by simp) (fun i => by simp)).mono ?_
  rintro e w1 ⟨rfl, hc0, hc1, hB1⟩
  have hz1 : w.heap.size < w1.heap.size := cell_lt hc0
  have hB1w : Below w.heap.size w w1 := ((Below.refl _ _).alloc (Nat.le_refl _) _).trans hB1
  have hE2 : Env G w1 := hE.below hB1w
  clear hE1 hB1
  have hs0 := hE2.s_fold_errLarge.cell
  go_wp2_with fail
  refine (fold_is x _ w1).mono ?_
  rintro e w2 ⟨rfl, hB2⟩
  have hz2 : w.heap.size < w2.heap.size := by have := hB2.size; omega
  rw [← hB2.cell (p := ⟨w.heap.size, 0, none⟩) hz1] at hc0
  rw [← hB2.cell (p := ⟨w.heap.size, 1, none⟩) hz1] at hc1
  have hE3 := hE2.below hB2
  have hB2w : Below w.heap.size w w2 := hB1w.trans (hB2.mono (Nat.le_of_lt hz1))
  clear hs0 hB2
  go_wp2
  go_ret
  exact ⟨rfl, hB2w⟩

set_option maxHeartbeats 1000000 in
theorem fold_told_errFold (G : Nat → Addr) (x : Int) (w : World) (hE : Env G w) : Calls Tryz.prog 19 #[.iface 54 (.agg #[.int .i64 x, .iface 159 (.pointer (some (G 1)))])] w fun e w' => e = .returned (.int .i64 150) ∧ Below w.heap.size w w' := by
  have hE1 : Env G (w.alloc (.cells #[.int .i64 0, .nilIface] 54)) := hE.below ((Below.refl _ _).alloc (Nat.le_refl _) _)
  go_enter Tryz.func19, Tryz.ntmps19
  go_wp2_with fail
  refine (fold_as x (G 1) w.heap.size _ hE1.errT (.int .i64 0) (by simp) .nilIface (by simp) (fun i => by simp)).mono ?_
  rintro e w1 ⟨rfl, hc0, hc1, hB1⟩
  have hz1 : w.heap.size < w1.heap.size := cell_lt hc0
  have hB1w : Below w.heap.size w w1 := ((Below.refl _ _).alloc (Nat.le_refl _) _).trans hB1
  have hE2 : Env G w1 := hE.below hB1w
  clear hE1 hB1
  have hs0 := hE2.s_fold_errLarge.cell
  go_wp2_with fail
  obtain ⟨ca0, ta0, ha0⟩ := hE2.s_fold_errFold.obj
  obtain ⟨cb0, tb0, hb0⟩ := hE2.s_fold_errLarge.obj
  refine (fold_isNot x _ _ _ _ _ _ w1 hE2.n_fold_errFold_fold_errLarge ha0 hb0).mono ?_
  clear ha0 hb0
  rintro e w2 ⟨rfl, hB2⟩
  have hz2 : w.heap.size < w2.heap.size := by have := hB2.size; omega
  rw [← hB2.cell (p := ⟨w.heap.size, 0, none⟩) hz1] at hc0
  rw [← hB2.cell (p := ⟨w.heap.size, 1, none⟩) hz1] at hc1
  have hE3 := hE2.below hB2
  have hB2w : Below w.heap.size w w2 := hB1w.trans (hB2.mono (Nat.le_of_lt hz1))
  clear hs0 hB2
  have hs1 := hE3.s_fold_errFold.cell
  go_wp2_with fail
  refine (fold_is x _ w2).mono ?_
  rintro e w3 ⟨rfl, hB3⟩
  have hz3 : w.heap.size < w3.heap.size := by have := hB3.size; omega
  rw [← hB3.cell (p := ⟨w.heap.size, 0, none⟩) hz2] at hc0
  rw [← hB3.cell (p := ⟨w.heap.size, 1, none⟩) hz2] at hc1
  have hE4 := hE3.below hB3
  have hB3w : Below w.heap.size w w3 := hB2w.trans (hB3.mono (Nat.le_of_lt hz2))
  clear hs1 hB3
  go_wp2
  go_ret
  exact ⟨rfl, hB3w⟩

set_option maxHeartbeats 1000000 in
theorem fold_told_errUrl (G : Nat → Addr) (x : Int) (w : World) (hE : Env G w) : Calls Tryz.prog 19 #[.iface 54 (.agg #[.int .i64 x, .iface 159 (.pointer (some (G 3)))])] w fun e w' => e = .returned (.int .i64 152) ∧ Below w.heap.size w w' := by
  have hE1 : Env G (w.alloc (.cells #[.int .i64 0, .nilIface] 54)) := hE.below ((Below.refl _ _).alloc (Nat.le_refl _) _)
  go_enter Tryz.func19, Tryz.ntmps19
  go_wp2_with fail
  refine (fold_as x (G 3) w.heap.size _ hE1.errT (.int .i64 0) (by simp) .nilIface (by simp) (fun i => by simp)).mono ?_
  rintro e w1 ⟨rfl, hc0, hc1, hB1⟩
  have hz1 : w.heap.size < w1.heap.size := cell_lt hc0
  have hB1w : Below w.heap.size w w1 := ((Below.refl _ _).alloc (Nat.le_refl _) _).trans hB1
  have hE2 : Env G w1 := hE.below hB1w
  clear hE1 hB1
  have hs0 := hE2.s_fold_errLarge.cell
  go_wp2_with fail
  obtain ⟨ca0, ta0, ha0⟩ := hE2.s_fold_errUrl.obj
  obtain ⟨cb0, tb0, hb0⟩ := hE2.s_fold_errLarge.obj
  refine (fold_isNot x _ _ _ _ _ _ w1 hE2.n_fold_errUrl_fold_errLarge ha0 hb0).mono ?_
  clear ha0 hb0
  rintro e w2 ⟨rfl, hB2⟩
  have hz2 : w.heap.size < w2.heap.size := by have := hB2.size; omega
  rw [← hB2.cell (p := ⟨w.heap.size, 0, none⟩) hz1] at hc0
  rw [← hB2.cell (p := ⟨w.heap.size, 1, none⟩) hz1] at hc1
  have hE3 := hE2.below hB2
  have hB2w : Below w.heap.size w w2 := hB1w.trans (hB2.mono (Nat.le_of_lt hz1))
  clear hs0 hB2
  have hs1 := hE3.s_fold_errFold.cell
  go_wp2_with fail
  obtain ⟨ca1, ta1, ha1⟩ := hE3.s_fold_errUrl.obj
  obtain ⟨cb1, tb1, hb1⟩ := hE3.s_fold_errFold.obj
  refine (fold_isNot x _ _ _ _ _ _ w2 hE3.n_fold_errUrl_fold_errFold ha1 hb1).mono ?_
  clear ha1 hb1
  rintro e w3 ⟨rfl, hB3⟩
  have hz3 : w.heap.size < w3.heap.size := by have := hB3.size; omega
  rw [← hB3.cell (p := ⟨w.heap.size, 0, none⟩) hz2] at hc0
  rw [← hB3.cell (p := ⟨w.heap.size, 1, none⟩) hz2] at hc1
  have hE4 := hE3.below hB3
  have hB3w : Below w.heap.size w w3 := hB2w.trans (hB3.mono (Nat.le_of_lt hz2))
  clear hs1 hB3
  have hs2 := hE4.s_fold_errUrl.cell
  go_wp2_with fail
  refine (fold_is x _ w3).mono ?_
  rintro e w4 ⟨rfl, hB4⟩
  have hz4 : w.heap.size < w4.heap.size := by have := hB4.size; omega
  rw [← hB4.cell (p := ⟨w.heap.size, 0, none⟩) hz3] at hc0
  rw [← hB4.cell (p := ⟨w.heap.size, 1, none⟩) hz3] at hc1
  have hE5 := hE4.below hB4
  have hB4w : Below w.heap.size w w4 := hB3w.trans (hB4.mono (Nat.le_of_lt hz3))
  clear hs2 hB4
  go_wp2
  go_ret
  exact ⟨rfl, hB4w⟩

set_option maxHeartbeats 1000000 in
theorem fold_told_errItem (G : Nat → Addr) (x : Int) (w : World) (hE : Env G w) : Calls Tryz.prog 19 #[.iface 54 (.agg #[.int .i64 x, .iface 159 (.pointer (some (G 2)))])] w fun e w' => e = .returned (.int .i64 151) ∧ Below w.heap.size w w' := by
  have hE1 : Env G (w.alloc (.cells #[.int .i64 0, .nilIface] 54)) := hE.below ((Below.refl _ _).alloc (Nat.le_refl _) _)
  go_enter Tryz.func19, Tryz.ntmps19
  go_wp2_with fail
  refine (fold_as x (G 2) w.heap.size _ hE1.errT (.int .i64 0) (by simp) .nilIface (by simp) (fun i => by simp)).mono ?_
  rintro e w1 ⟨rfl, hc0, hc1, hB1⟩
  have hz1 : w.heap.size < w1.heap.size := cell_lt hc0
  have hB1w : Below w.heap.size w w1 := ((Below.refl _ _).alloc (Nat.le_refl _) _).trans hB1
  have hE2 : Env G w1 := hE.below hB1w
  clear hE1 hB1
  have hs0 := hE2.s_fold_errLarge.cell
  go_wp2_with fail
  obtain ⟨ca0, ta0, ha0⟩ := hE2.s_fold_errItem.obj
  obtain ⟨cb0, tb0, hb0⟩ := hE2.s_fold_errLarge.obj
  refine (fold_isNot x _ _ _ _ _ _ w1 hE2.n_fold_errItem_fold_errLarge ha0 hb0).mono ?_
  clear ha0 hb0
  rintro e w2 ⟨rfl, hB2⟩
  have hz2 : w.heap.size < w2.heap.size := by have := hB2.size; omega
  rw [← hB2.cell (p := ⟨w.heap.size, 0, none⟩) hz1] at hc0
  rw [← hB2.cell (p := ⟨w.heap.size, 1, none⟩) hz1] at hc1
  have hE3 := hE2.below hB2
  have hB2w : Below w.heap.size w w2 := hB1w.trans (hB2.mono (Nat.le_of_lt hz1))
  clear hs0 hB2
  have hs1 := hE3.s_fold_errFold.cell
  go_wp2_with fail
  obtain ⟨ca1, ta1, ha1⟩ := hE3.s_fold_errItem.obj
  obtain ⟨cb1, tb1, hb1⟩ := hE3.s_fold_errFold.obj
  refine (fold_isNot x _ _ _ _ _ _ w2 hE3.n_fold_errItem_fold_errFold ha1 hb1).mono ?_
  clear ha1 hb1
  rintro e w3 ⟨rfl, hB3⟩
  have hz3 : w.heap.size < w3.heap.size := by have := hB3.size; omega
  rw [← hB3.cell (p := ⟨w.heap.size, 0, none⟩) hz2] at hc0
  rw [← hB3.cell (p := ⟨w.heap.size, 1, none⟩) hz2] at hc1
  have hE4 := hE3.below hB3
  have hB3w : Below w.heap.size w w3 := hB2w.trans (hB3.mono (Nat.le_of_lt hz2))
  clear hs1 hB3
  have hs2 := hE4.s_fold_errUrl.cell
  go_wp2_with fail
  obtain ⟨ca2, ta2, ha2⟩ := hE4.s_fold_errItem.obj
  obtain ⟨cb2, tb2, hb2⟩ := hE4.s_fold_errUrl.obj
  refine (fold_isNot x _ _ _ _ _ _ w3 hE4.n_fold_errItem_fold_errUrl ha2 hb2).mono ?_
  clear ha2 hb2
  rintro e w4 ⟨rfl, hB4⟩
  have hz4 : w.heap.size < w4.heap.size := by have := hB4.size; omega
  rw [← hB4.cell (p := ⟨w.heap.size, 0, none⟩) hz3] at hc0
  rw [← hB4.cell (p := ⟨w.heap.size, 1, none⟩) hz3] at hc1
  have hE5 := hE4.below hB4
  have hB4w : Below w.heap.size w w4 := hB3w.trans (hB4.mono (Nat.le_of_lt hz3))
  clear hs2 hB4
  go_wp2
  go_ret
  exact ⟨rfl, hB4w⟩

set_option maxHeartbeats 1000000 in
theorem code_told_nil (G : Nat → Addr) (w : World) (hE : Env G w) : Calls Tryz.prog 71 #[.nilIface] w fun e w' => e = .returned (.int .i64 0) ∧ Below w.heap.size w w' := by
  have hE1 : Env G (w.alloc (.cells #[.int .i64 0] 144)) := hE.below ((Below.refl _ _).alloc (Nat.le_refl _) _)
  have hs := hE1.s_code_errCode.cell
  go_enter Tryz.func71, Tryz.ntmps71
  go_wp2_with fail
  refine (is_nil _ _).mono ?_
  rintro e w1 ⟨rfl, rfl⟩
  go_wp2
  go_ret
  exact ⟨rfl, (Below.refl _ _).alloc (Nat.le_refl _) _⟩
set_option maxHeartbeats 1000000 in
theorem code_told_one (G : Nat → Addr) (x : Int) (w : World) (hE : Env G w) : Calls Tryz.prog 71 #[.iface 144 (.agg #[.int .i64 x])] w fun e w' => e = .returned (.int .i64 50) ∧ Below w.heap.size w w' := by
  have hE1 : Env G (w.alloc (.cells #[.int .i64 0] 144)) := hE.below ((Below.refl _ _).alloc (Nat.le_refl _) _)
  have hs := hE1.s_code_errCode.cell
  go_enter Tryz.func71, Tryz.ntmps71
  go_wp2_with fail
  refine (code_is x _ _ hs).mono ?_
  rintro e w1 ⟨rfl, hB1⟩
  have hz : w.heap.size < w1.heap.size := by have := hB1.size; simp at this; omega
  have hc0 : w1.cell? ⟨w.heap.size, 0, none⟩ = some (.int .i64 0) := (hB1.cell (p := ⟨w.heap.size, 0, none⟩) (by simp)).trans (by simp)
  have hf0 : ∀ i, w1.frozen? ⟨w.heap.size, i, none⟩ = false := fun i => (hB1.frozen (p := ⟨w.heap.size, i, none⟩) (by simp)).trans (by simp)
  have hB1w : Below w.heap.size w w1 := ((Below.refl _ _).alloc (Nat.le_refl _) _).trans (hB1.mono (by simp))
  have hE2 : Env G w1 := hE.below hB1w
  clear hE1 hs hB1
  go_wp2_with fail
  refine (code_as x w.heap.size _ hE2.errT _ hc0 hf0).mono ?_
  rintro e w2 ⟨rfl, _, hB2⟩
  go_wp2
  go_ret
  exact ⟨rfl, hB1w.trans hB2⟩
end Go.Proofs.YtbocflglknkiaaaGreatDoor
