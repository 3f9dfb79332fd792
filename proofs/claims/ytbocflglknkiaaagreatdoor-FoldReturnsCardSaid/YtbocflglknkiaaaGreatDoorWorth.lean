/- code's worth: which sign a byte is. -/
import Derived.Test.YtbocflglknkiaaaGreatDoorGroup
namespace Go.Proofs.YtbocflglknkiaaaGreatDoor
open Go.RowKit Go.Shelf

def worthL (c : UInt8) : Option Nat := (List.range 64).find? fun i => sgB i == c

theorem worthL_some {c : UInt8} {i : Nat} (h : worthL c = some i) : i < 64 ∧ sgB i = c := by
  unfold worthL at h
  have h1 := List.find?_some h
  have h2 := List.mem_of_find?_eq_some h
  exact ⟨by simpa using h2, by simpa using h1⟩
theorem worthL_none {c : UInt8} (h : worthL c = none) (i : Nat) (hi : i < 64) : sgB i ≠ c := by
  unfold worthL at h
  rw [List.find?_eq_none] at h
  simpa using h i (by simpa using hi)

def worthFrom (c : UInt8) (k : Nat) : Option Nat := (List.range' k (64 - k)).find? fun i => sgB i == c
theorem worthFrom_zero (c : UInt8) : worthFrom c 0 = worthL c := by simp [worthFrom, worthL, List.range_eq_range']
theorem worthFrom_step (c : UInt8) (k : Nat) (h : k < 64) : worthFrom c k = if sgB k == c then some k else worthFrom c (k + 1) := by
  unfold worthFrom
  rw [show 64 - k = (64 - (k + 1)) + 1 by omega, List.range'_succ, List.find?_cons]
  split <;> simp_all
theorem worthFrom_end (c : UInt8) : worthFrom c 64 = none := by simp [worthFrom]

set_option maxHeartbeats 1000000 in
set_option maxRecDepth 100000 in
theorem worth_any (b : Nat) (c : UInt8) (w : World) (hc : ∀ j, j < 64 → w.cell? ⟨b, j, none⟩ = some (.int .u8 (sg j : Nat))) :
    Calls Tryz.prog 90 #[.pointer (some ⟨b, 0, none⟩), .int .u8 (c.toNat : Int)] w fun e w' => e = .returned (.tuple #[.int .i64 (((worthL c).getD 0 : Nat) : Int), .bool (worthL c).isSome]) ∧ Below w.heap.size w w' := by
  have hb : b < w.heap.size := cell_lt (hc 0 (by omega))
  go_enter Tryz.func90, Tryz.ntmps90
  go_wp2
  go_loopw [9] (fun i wr => ∃ k : Nat, k ≤ 64 ∧ i = .int .i64 k ∧ Hid (worthFrom c k = worthL c) ∧ Below w.heap.size w wr)
    (fun i _ => 64 - (intOf i).toNat)
  case atStart => exact ⟨0, by omega, rfl, Lib.hid (worthFrom_zero c), Below.refl _ _⟩
  case round =>
    obtain ⟨k, hk, rfl, hf, hB⟩ := hrel
    by_cases hlt : k < 64
    · have hcell : wr.cell? ⟨b, k, none⟩ = some (.int .u8 (sg k : Nat)) := (hB.cell (p := ⟨b, k, none⟩) hb).trans (hc k hlt)
      have hki : (k : Int) < 64 := by omega
      clear hc
      have hst := worthFrom_step c k hlt
      by_cases he : sgB k = c
      · have hw : worthL c = some k := by rw [← hf.out, hst, he]; simp
        have Hw := Lib.hid hw
        have hv : (((sg k : Nat) : Int) == ((c.toNat : Nat) : Int)) = true := by rw [← he, sgB_toNat]; simp
        clear hw he hst hf
        go_wp2_with fail
        go_quiet (fail)
        go_wp2
        go_ret2
        refine ⟨?_, bdrew hB _⟩
        rw [Hw.out]
        rfl
      · have hw : worthFrom c (k + 1) = worthL c := by rw [← hf.out, hst, if_neg (by simpa using he)]
        have Hw := Lib.hid hw
        have hv : (((sg k : Nat) : Int) == ((c.toNat : Nat) : Int)) = false := by
          rw [beq_eq_false_iff_ne]
          intro h
          apply he
          have : (sgB k).toNat = c.toNat := by rw [sgB_toNat]; omega
          exact UInt8.toNat_inj.1 this
        clear hw he hst hf
        go_wp2_with fail
        go_quiet (fail)
        go_wp2
        go_roundw
        case rel => exact ⟨k + 1, by omega, by go_num, Hw, bdrew hB _⟩
        case measure => simp [intOf]; omega
    · obtain rfl : k = 64 := by omega
      have hw : worthL c = none := by rw [← hf.out, worthFrom_end]
      have Hw := Lib.hid hw
      clear hw hf hc
      go_wp2
      go_ret2
      refine ⟨?_, hB⟩
      rw [Hw.out]
      rfl
end Go.Proofs.YtbocflglknkiaaaGreatDoor
