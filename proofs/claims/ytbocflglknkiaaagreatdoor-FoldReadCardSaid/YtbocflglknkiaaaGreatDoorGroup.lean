/- code's group: the base64 of one to three bytes. -/
import Derived.Test.YtbocflglknkiaaaGreatDoorSigns
import Derived.Laws.BitsLemmas
import Derived.Laws.BytesString
import Derived.Laws.IdiomStrings
namespace Go.Proofs.YtbocflglknkiaaaGreatDoor
open Go.RowKit Go.Shelf

theorem i64_small (n : Int) (h₀ : 0 ≤ n) (h₁ : n < 2 ^ 40) : IntKind.i64.wrap n = n := by rw [IntKind.wrap_i64]; omega
theorem i64_mask63 (x : Int) (h₀ : 0 ≤ x) (h₁ : x < 2 ^ 40) : bits .and .i64 x 63 = x % 64 := bits_mask .i64 40 (by decide) i64_small 6 (by decide) x h₀ h₁
theorem i64_or (a b : Nat) (ha : a < 2 ^ 40) (hb : b < 2 ^ 40) : bits .or .i64 (a : Int) (b : Int) = ((a ||| b : Nat) : Int) := (bits_nat .i64 40 (by decide) i64_small a b ha hb).2
theorem i64_or0 (a : Int) (h : 0 ≤ a) (ha : a < 2 ^ 40) : bits .or .i64 0 a = a := by
  obtain ⟨n, rfl⟩ := Int.eq_ofNat_of_zero_le h
  have := i64_or 0 n (by decide) (by omega)
  simpa using this
theorem i64_or_hi (i a b : Nat) (h : a < 2 ^ i) (hi : 2 ^ i ≤ 2 ^ 40) (hb : 2 ^ i * b < 2 ^ 40) : bits .or .i64 (a : Int) ((b : Int) * 2 ^ i) = (a : Int) + (b : Int) * 2 ^ i := by
  have := i64_or a (2 ^ i * b) (by omega) hb
  rw [Nat.or_comm, ← Nat.two_pow_add_eq_or_of_lt h] at this
  rw [show ((b : Int) * 2 ^ i) = ((2 ^ i * b : Nat) : Int) by push_cast; rw [Int.mul_comm], this]
  push_cast; omega

/-- Sign i, as a byte. -/
def sgB (i : Nat) : UInt8 := (sg i).toUInt8
theorem sg_lt (i : Nat) : sg i < 256 := by unfold sg; (repeat' split) <;> omega
theorem sgB_toNat (i : Nat) : (sgB i).toNat = sg i := by unfold sgB; simp [Nat.mod_eq_of_lt (sg_lt i)]

/-- The base64 of one to three bytes. -/
def groupL : List UInt8 → List UInt8
  | [a] => [sgB (a.toNat / 4), sgB (a.toNat % 4 * 16), 61, 61]
  | [a, b] => [sgB (a.toNat / 4), sgB (a.toNat % 4 * 16 + b.toNat / 16), sgB (b.toNat % 16 * 4), 61]
  | [a, b, c] => [sgB (a.toNat / 4), sgB (a.toNat % 4 * 16 + b.toNat / 16), sgB (b.toNat % 16 * 4 + c.toNat / 64), sgB (c.toNat % 64)]
  | _ => [61, 61, 61, 61]

theorem conv4 (w : World) (x0 x1 x2 x3 : Int) (b0 b1 b2 b3 : UInt8) (h0 : x0 = b0.toNat) (h1 : x1 = b1.toNat) (h2 : x2 = b2.toNat) (h3 : x3 = b3.toNat) :
    (convert 36 9 (.slice (some ⟨w.heap.size, 0, none⟩) 4 4)).run Tryz.prog (w.alloc (.cells #[.int .u8 x0, .int .u8 x1, .int .u8 x2, .int .u8 x3] 90)) = .ok (.string ⟨#[b0, b1, b2, b3]⟩) (w.alloc (.cells #[.int .u8 x0, .int .u8 x1, .int .u8 x2, .int .u8 x3] 90)) :=
  run_convert_bytes_back _ 36 9 5 ⟨w.heap.size, 0, none⟩ 4 [b0, b1, b2, b3] Tryz.underlying36 Tryz.underlying5 Tryz.underlying9 (fun j hj => by
    subst h0 h1 h2 h3
    rcases j with _ | _ | _ | _ | j
    · simp [Addr.add]
    · simp [Addr.add]
    · simp [Addr.add]
    · simp [Addr.add]
    · exact absurd hj (by simp))

set_option maxHeartbeats 4000000 in
set_option maxRecDepth 100000 in
theorem group_3 (b : Nat) (s : ByteArray) (w : World) (hc : ∀ j, j < 64 → w.cell? ⟨b, j, none⟩ = some (.int .u8 (sg j : Nat))) (hs : s.size = 3) :
    Calls Tryz.prog 29 #[.pointer (some ⟨b, 0, none⟩), .string s] w fun e w' => e = .returned (.string ⟨(groupL s.data.toList).toArray⟩) ∧ Below w.heap.size w w' := by
  have e3 : ((s.size : Int) == 3) = true := by simp [hs]
  have e2 : ((s.size : Int) == 2) = false := by simp [hs]
  have e1 : ((s.size : Int) == 1) = false := by simp [hs]
  have z0 : 0 < s.size := by omega
  have z1 : 1 < s.size := by omega
  have z2 : 2 < s.size := by omega
  have hl : s.data.toList = [s[0], s[1], s[2]] := by
    apply List.ext_getElem
    · simpa using hs
    · intro i h1 h2
      have hi : i = 0 ∨ i = 1 ∨ i = 2 := by simp at h2; omega
      rcases hi with rfl | rfl | rfl <;> rfl
  have Hl := Lib.hid hl
  clear hl hs
  have u0 : (s[0].toNat : Int) ≤ 255 := by have := s[0].toNat_lt; omega
  have v0 : (0 : Int) ≤ (s[0].toNat : Int) := by omega
  have k0 : wrap64 (s[0].toNat : Int) = (s[0].toNat : Int) := by unfold wrap64; omega
  have u1 : (s[1].toNat : Int) ≤ 255 := by have := s[1].toNat_lt; omega
  have v1 : (0 : Int) ≤ (s[1].toNat : Int) := by omega
  have k1 : wrap64 (s[1].toNat : Int) = (s[1].toNat : Int) := by unfold wrap64; omega
  have u2 : (s[2].toNat : Int) ≤ 255 := by have := s[2].toNat_lt; omega
  have v2 : (0 : Int) ≤ (s[2].toNat : Int) := by omega
  have k2 : wrap64 (s[2].toNat : Int) = (s[2].toNat : Int) := by unfold wrap64; omega
  have o0 := i64_or0 (s[2].toNat : Int) (by omega) (by omega)
  have o1 : bits .or .i64 (s[2].toNat : Int) ((s[1].toNat : Int) * (256 : Int)) = ((s[2].toNat : Int) + (s[1].toNat : Int) * (256 : Int)) := i64_or_hi 8 s[2].toNat s[1].toNat (by omega) (by decide) (by omega)
  have o2 : bits .or .i64 ((s[2].toNat : Int) + (s[1].toNat : Int) * (256 : Int)) ((s[0].toNat : Int) * (65536 : Int)) = ((s[2].toNat : Int) + (s[1].toNat : Int) * (256 : Int) + (s[0].toNat : Int) * (65536 : Int)) := i64_or_hi 16 (s[2].toNat + s[1].toNat * 256) s[0].toNat (by omega) (by decide) (by omega)
  have m0 := i64_mask63 (s[2].toNat : Int) (by omega) (by omega)
  have x0 := hc (s[2].toNat % 64) (by omega)
  have m1 := i64_mask63 (((s[2].toNat : Int) + (s[1].toNat : Int) * (256 : Int)) / 64) (by omega) (by omega)
  have x1 := hc ((s[2].toNat + s[1].toNat * 256) / 64 % 64) (by omega)
  have m2 := i64_mask63 (((s[2].toNat : Int) + (s[1].toNat : Int) * (256 : Int) + (s[0].toNat : Int) * (65536 : Int)) / 4096) (by omega) (by omega)
  have m3 := i64_mask63 (((s[2].toNat : Int) + (s[1].toNat : Int) * (256 : Int) + (s[0].toNat : Int) * (65536 : Int)) / 262144) (by omega) (by omega)
  have x2 := hc ((s[2].toNat + s[1].toNat * 256 + s[0].toNat * 65536) / 4096 % 64) (by omega)
  have x3 := hc ((s[2].toNat + s[1].toNat * 256 + s[0].toNat * 65536) / 262144 % 64) (by omega)
  have hb : b < w.heap.size := cell_lt (hc 0 (by omega))
  clear hc
  have cv := conv4 w ((sg ((s[2].toNat + s[1].toNat * 256 + s[0].toNat * 65536) / 262144 % 64) : Nat) : Int) ((sg ((s[2].toNat + s[1].toNat * 256 + s[0].toNat * 65536) / 4096 % 64) : Nat) : Int) ((sg ((s[2].toNat + s[1].toNat * 256) / 64 % 64) : Nat) : Int) ((sg (s[2].toNat % 64) : Nat) : Int) (sgB ((s[2].toNat + s[1].toNat * 256 + s[0].toNat * 65536) / 262144 % 64)) (sgB ((s[2].toNat + s[1].toNat * 256 + s[0].toNat * 65536) / 4096 % 64)) (sgB ((s[2].toNat + s[1].toNat * 256) / 64 % 64)) (sgB (s[2].toNat % 64)) (by rw [sgB_toNat]) (by rw [sgB_toNat]) (by rw [sgB_toNat]) (by rw [sgB_toNat])
  go_enter Tryz.func29, Tryz.ntmps29
  go_wp2
  go_ret
  refine ⟨?_, (Below.refl _ _).alloc (Nat.le_refl _) _⟩
  rw [Hl.out]
  simp only [groupL]
  rw [show (s[2].toNat + s[1].toNat * 256 + s[0].toNat * 65536) / 262144 % 64 = s[0].toNat / 4 by omega, show (s[2].toNat + s[1].toNat * 256 + s[0].toNat * 65536) / 4096 % 64 = s[0].toNat % 4 * 16 + s[1].toNat / 16 by omega, show (s[2].toNat + s[1].toNat * 256) / 64 % 64 = s[1].toNat % 16 * 4 + s[2].toNat / 64 by omega]
  try rfl
set_option maxHeartbeats 4000000 in
set_option maxRecDepth 100000 in
theorem group_2 (b : Nat) (s : ByteArray) (w : World) (hc : ∀ j, j < 64 → w.cell? ⟨b, j, none⟩ = some (.int .u8 (sg j : Nat))) (hs : s.size = 2) :
    Calls Tryz.prog 29 #[.pointer (some ⟨b, 0, none⟩), .string s] w fun e w' => e = .returned (.string ⟨(groupL s.data.toList).toArray⟩) ∧ Below w.heap.size w w' := by
  have e3 : ((s.size : Int) == 3) = false := by simp [hs]
  have e2 : ((s.size : Int) == 2) = true := by simp [hs]
  have e1 : ((s.size : Int) == 1) = false := by simp [hs]
  have z0 : 0 < s.size := by omega
  have z1 : 1 < s.size := by omega
  have hl : s.data.toList = [s[0], s[1]] := by
    apply List.ext_getElem
    · simpa using hs
    · intro i h1 h2
      have hi : i = 0 ∨ i = 1 := by simp at h2; omega
      rcases hi with rfl | rfl <;> rfl
  have Hl := Lib.hid hl
  clear hl hs
  have u0 : (s[0].toNat : Int) ≤ 255 := by have := s[0].toNat_lt; omega
  have v0 : (0 : Int) ≤ (s[0].toNat : Int) := by omega
  have k0 : wrap64 (s[0].toNat : Int) = (s[0].toNat : Int) := by unfold wrap64; omega
  have u1 : (s[1].toNat : Int) ≤ 255 := by have := s[1].toNat_lt; omega
  have v1 : (0 : Int) ≤ (s[1].toNat : Int) := by omega
  have k1 : wrap64 (s[1].toNat : Int) = (s[1].toNat : Int) := by unfold wrap64; omega
  have o1 := i64_or0 ((s[1].toNat : Int) * (256 : Int)) (by omega) (by omega)
  have o2 : bits .or .i64 ((s[1].toNat : Int) * (256 : Int)) ((s[0].toNat : Int) * (65536 : Int)) = ((s[1].toNat : Int) * (256 : Int) + (s[0].toNat : Int) * (65536 : Int)) := i64_or_hi 16 (s[1].toNat * 256) s[0].toNat (by omega) (by decide) (by omega)
  have m1 := i64_mask63 (((s[1].toNat : Int) * (256 : Int)) / 64) (by omega) (by omega)
  have x1 := hc ((s[1].toNat * 256) / 64 % 64) (by omega)
  have m2 := i64_mask63 (((s[1].toNat : Int) * (256 : Int) + (s[0].toNat : Int) * (65536 : Int)) / 4096) (by omega) (by omega)
  have m3 := i64_mask63 (((s[1].toNat : Int) * (256 : Int) + (s[0].toNat : Int) * (65536 : Int)) / 262144) (by omega) (by omega)
  have x2 := hc ((s[1].toNat * 256 + s[0].toNat * 65536) / 4096 % 64) (by omega)
  have x3 := hc ((s[1].toNat * 256 + s[0].toNat * 65536) / 262144 % 64) (by omega)
  have hb : b < w.heap.size := cell_lt (hc 0 (by omega))
  clear hc
  have cv := conv4 w ((sg ((s[1].toNat * 256 + s[0].toNat * 65536) / 262144 % 64) : Nat) : Int) ((sg ((s[1].toNat * 256 + s[0].toNat * 65536) / 4096 % 64) : Nat) : Int) ((sg ((s[1].toNat * 256) / 64 % 64) : Nat) : Int) 61 (sgB ((s[1].toNat * 256 + s[0].toNat * 65536) / 262144 % 64)) (sgB ((s[1].toNat * 256 + s[0].toNat * 65536) / 4096 % 64)) (sgB ((s[1].toNat * 256) / 64 % 64)) 61 (by rw [sgB_toNat]) (by rw [sgB_toNat]) (by rw [sgB_toNat]) rfl
  go_enter Tryz.func29, Tryz.ntmps29
  go_wp2
  go_ret
  refine ⟨?_, (Below.refl _ _).alloc (Nat.le_refl _) _⟩
  rw [Hl.out]
  simp only [groupL]
  rw [show (s[1].toNat * 256 + s[0].toNat * 65536) / 262144 % 64 = s[0].toNat / 4 by omega, show (s[1].toNat * 256 + s[0].toNat * 65536) / 4096 % 64 = s[0].toNat % 4 * 16 + s[1].toNat / 16 by omega, show (s[1].toNat * 256) / 64 % 64 = s[1].toNat % 16 * 4 by omega]
  try rfl
set_option maxHeartbeats 4000000 in
set_option maxRecDepth 100000 in
theorem group_1 (b : Nat) (s : ByteArray) (w : World) (hc : ∀ j, j < 64 → w.cell? ⟨b, j, none⟩ = some (.int .u8 (sg j : Nat))) (hs : s.size = 1) :
    Calls Tryz.prog 29 #[.pointer (some ⟨b, 0, none⟩), .string s] w fun e w' => e = .returned (.string ⟨(groupL s.data.toList).toArray⟩) ∧ Below w.heap.size w w' := by
  have e3 : ((s.size : Int) == 3) = false := by simp [hs]
  have e2 : ((s.size : Int) == 2) = false := by simp [hs]
  have e1 : ((s.size : Int) == 1) = true := by simp [hs]
  have z0 : 0 < s.size := by omega
  have hl : s.data.toList = [s[0]] := by
    apply List.ext_getElem
    · simpa using hs
    · intro i h1 h2
      have hi : i = 0 := by simp at h2; omega
      rcases hi with rfl <;> rfl
  have Hl := Lib.hid hl
  clear hl hs
  have u0 : (s[0].toNat : Int) ≤ 255 := by have := s[0].toNat_lt; omega
  have v0 : (0 : Int) ≤ (s[0].toNat : Int) := by omega
  have k0 : wrap64 (s[0].toNat : Int) = (s[0].toNat : Int) := by unfold wrap64; omega
  have o2 := i64_or0 ((s[0].toNat : Int) * (65536 : Int)) (by omega) (by omega)
  have m2 := i64_mask63 (((s[0].toNat : Int) * (65536 : Int)) / 4096) (by omega) (by omega)
  have m3 := i64_mask63 (((s[0].toNat : Int) * (65536 : Int)) / 262144) (by omega) (by omega)
  have x2 := hc ((s[0].toNat * 65536) / 4096 % 64) (by omega)
  have x3 := hc ((s[0].toNat * 65536) / 262144 % 64) (by omega)
  have hb : b < w.heap.size := cell_lt (hc 0 (by omega))
  clear hc
  have cv := conv4 w ((sg ((s[0].toNat * 65536) / 262144 % 64) : Nat) : Int) ((sg ((s[0].toNat * 65536) / 4096 % 64) : Nat) : Int) 61 61 (sgB ((s[0].toNat * 65536) / 262144 % 64)) (sgB ((s[0].toNat * 65536) / 4096 % 64)) 61 61 (by rw [sgB_toNat]) (by rw [sgB_toNat]) rfl rfl
  go_enter Tryz.func29, Tryz.ntmps29
  go_wp2
  go_ret
  refine ⟨?_, (Below.refl _ _).alloc (Nat.le_refl _) _⟩
  rw [Hl.out]
  simp only [groupL]
  rw [show (s[0].toNat * 65536) / 262144 % 64 = s[0].toNat / 4 by omega, show (s[0].toNat * 65536) / 4096 % 64 = s[0].toNat % 4 * 16 by omega]
  try rfl

set_option maxHeartbeats 1000000 in
theorem group_none (b : Nat) (s : ByteArray) (w : World) (hs : s.size = 0 ∨ 3 < s.size) :
    Calls Tryz.prog 29 #[.pointer (some ⟨b, 0, none⟩), .string s] w fun e w' => e = .returned (.string ⟨(groupL s.data.toList).toArray⟩) ∧ Below w.heap.size w w' := by
  have e3 : ((s.size : Int) == 3) = false := by simp; omega
  have e2 : ((s.size : Int) == 2) = false := by simp; omega
  have e1 : ((s.size : Int) == 1) = false := by simp; omega
  have hl : groupL s.data.toList = [61, 61, 61, 61] := by
    have : s.data.toList.length = s.size := by simp
    match h : s.data.toList with
    | [] => rfl
    | [_] => simp [h] at this; omega
    | [_, _] => simp [h] at this; omega
    | [_, _, _] => simp [h] at this; omega
    | _ :: _ :: _ :: _ :: _ => rfl
  have Hl := Lib.hid hl
  clear hl hs
  have cv := conv4 w 61 61 61 61 61 61 61 61 rfl rfl rfl rfl
  go_enter Tryz.func29, Tryz.ntmps29
  go_wp2
  go_ret
  refine ⟨?_, (Below.refl _ _).alloc (Nat.le_refl _) _⟩
  rw [Hl.out]
  rfl

theorem group_any (b : Nat) (s : ByteArray) (w : World) (hc : ∀ j, j < 64 → w.cell? ⟨b, j, none⟩ = some (.int .u8 (sg j : Nat))) :
    Calls Tryz.prog 29 #[.pointer (some ⟨b, 0, none⟩), .string s] w fun e w' => e = .returned (.string ⟨(groupL s.data.toList).toArray⟩) ∧ Below w.heap.size w w' := by
  by_cases h1 : s.size = 1
  · exact group_1 b s w hc h1
  · by_cases h2 : s.size = 2
    · exact group_2 b s w hc h2
    · by_cases h3 : s.size = 3
      · exact group_3 b s w hc h3
      · exact group_none b s w (by omega)
end Go.Proofs.YtbocflglknkiaaaGreatDoor
