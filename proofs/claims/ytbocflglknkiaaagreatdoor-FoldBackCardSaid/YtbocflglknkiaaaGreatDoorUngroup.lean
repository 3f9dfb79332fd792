/- code's ungroup: the bytes of at most four signs. -/
import Derived.Test.YtbocflglknkiaaaGreatDoorWorth
import Derived.Lib.ConvBytes
import Derived.Lib.BufferRead
namespace Go.Proofs.YtbocflglknkiaaaGreatDoor
open Go.RowKit Go.Shelf

theorem conv_own (w : World) (base n : Nat) (v : Value) (l : List UInt8) (h : w.ownsRow base 5 1 v n (Lib.byteCells l)) :
    (convert 36 9 v).run Tryz.prog w = .ok (.string ⟨l.toArray⟩) w := by
  obtain ⟨hl, ho⟩ := h
  rw [Lib.byteCells_length] at hl
  obtain rfl : l.length = n := by omega
  rcases ho with ⟨rfl, h0⟩ | ⟨g, cap, cur, rfl, _, hg, _, _, hs, ht⟩
  · obtain rfl : l = [] := List.length_eq_zero_iff.1 h0
    exact Lib.run_convert_nil_bytes w 36 9 5 0 Tryz.underlying36 Tryz.underlying5 Tryz.underlying9
  · refine run_convert_bytes_back w 36 9 5 ⟨g, 0, none⟩ cap l Tryz.underlying36 Tryz.underlying5 Tryz.underlying9 (fun j hj => ?_)
    have e : (cur.toList.take (l.length * 1))[j]? = (Lib.byteCells l)[j]? := by rw [ht]
    rw [List.getElem?_take, if_pos (by omega)] at e
    have : w.cell? ⟨g, j, none⟩ = cur[j]? := Lib.cell_of_heap hg j
    rw [show (⟨g, 0, none⟩ : Addr).add j = ⟨g, j, none⟩ by rw [Addr.add_mid, Nat.zero_add], this, ← Array.getElem?_toList, e]
    simp [Lib.byteCells, hj]

def valL : List UInt8 → Nat → Option Nat
  | [], n => some n
  | c :: r, n => (worthL c).bind fun v => valL r (n * 64 + v)
def outB (n k : Nat) : List UInt8 := (List.range k).map fun j => (n / 256 ^ (k - 1 - j)).toUInt8
def ungroupL (l : List UInt8) : Option (List UInt8) :=
  (valL (Lib.trimRightB l 61) 0).map fun n => outB (n / 2 ^ (6 * (Lib.trimRightB l 61).length % 8)) (6 * (Lib.trimRightB l 61).length / 8)

def ungroupV (at_ : Int) : Option (List UInt8) → Value
  | some l => .tuple #[.string ⟨l.toArray⟩, .nilIface]
  | none => .tuple #[.string ⟨#[]⟩, .iface 144 (.agg #[.int .i64 at_])]

theorem i64_or_lo (a b : Nat) (h : b < 64) (ha : a * 64 + b < 2 ^ 40) : bits .or .i64 ((a : Int) * 64) (b : Int) = (a : Int) * 64 + (b : Int) := by
  have := i64_or (2 ^ 6 * a) b (by omega) (by omega)
  rw [← Nat.two_pow_add_eq_or_of_lt (by simpa using h)] at this
  rw [show ((a : Int) * 64) = ((2 ^ 6 * a : Nat) : Int) by omega, this]
  push_cast; omega

set_option maxHeartbeats 2000000 in
set_option maxRecDepth 100000 in
theorem ungroup_any (b : Nat) (g : ByteArray) (at_ : Int) (w : World) (hg : g.size ≤ 4) (hc : ∀ j, j < 64 → w.cell? ⟨b, j, none⟩ = some (.int .u8 (sg j : Nat))) :
    Calls Tryz.prog 84 #[.pointer (some ⟨b, 0, none⟩), .string g, .int .i64 at_] w fun e w' =>
      e = .returned (ungroupV at_ (ungroupL g.data.toList)) ∧ Below w.heap.size w w' := by
  have hb : b < w.heap.size := cell_lt (hc 0 (by omega))
  obtain ⟨i0, hi0, hz0, hz1', hz2⟩ := info_parts infoByte
  obtain ⟨t, ht⟩ : ∃ t : ByteArray, t = ⟨(Lib.trimRightB g.data.toList 61).toArray⟩ := ⟨_, rfl⟩
  have htl : t.data.toList = Lib.trimRightB g.data.toList 61 := by rw [ht]
  have htr : Calls Tryz.prog 89 #[.string g, .string ⟨#[61]⟩] w fun e w' => e = .returned (.string t) ∧ w = w' := by
    rw [ht]; exact (Tryz.strings_TrimRight_one g 61 (by decide) w (by omega)).mono fun e w' h => ⟨h.1, h.2.symm⟩
  have htn : t.size ≤ 4 := by
    have : t.size = (Lib.trimRightB g.data.toList 61).length := by rw [← htl]; simp
    have h2 : (Lib.trimRightB g.data.toList 61).length ≤ g.data.toList.length := by
      unfold Lib.trimRightB
      rw [List.length_reverse]
      exact Nat.le_trans (List.dropWhile_sublist _).length_le (by simp)
    have h3 : g.data.toList.length = g.size := by simp
    omega
  obtain ⟨u, hu⟩ : ∃ u, u = ungroupL g.data.toList := ⟨_, rfl⟩
  have hu2 : u = (valL t.data.toList 0).map fun n => outB (n / 2 ^ (6 * t.size % 8)) (6 * t.size / 8) := by
    rw [hu, ungroupL, ← htl]; simp
  rw [← hu]
  have Hu := Lib.hid hu2
  have Htr := Lib.hid htr
  clear hu hu2 htl ht htr hg
  have kc := fun W : World => Lib.run_convert_string_bytes (P := Tryz.prog) W 9 36 5 t Tryz.underlying9 Tryz.underlying36 Tryz.underlying5
  go_enter Tryz.func84, Tryz.ntmps84
  go_wp2_with fail
  refine Htr.out.mono ?_
  rintro e w1 ⟨rfl, rfl⟩
  go_wp2_with fail
  have hBw : Below w.heap.size w (Lib.bytesWorld w 5 t) := ⟨rfl, rfl, rfl, by rw [Lib.bytesWorld_size]; omega, fun k hk => Lib.bytesWorld_at_old w _ t k hk⟩
  have hcl : ∀ j (hj : j < t.size), (Lib.bytesWorld w 5 t).cell? ⟨w.heap.size, j, none⟩ = some (.int .u8 (t[j].toNat : Int)) := fun j hj => by
    rw [Lib.bytesWorld_cell w _ t j hj]
    simp [List.getD, hj]
    rfl
  have hz1 : w.heap.size < (Lib.bytesWorld w 5 t).heap.size := by rw [Lib.bytesWorld_size]; omega
  generalize Lib.bytesWorld w 5 t = W1 at *
  clear kc
  go_loopw [8, 9, 20] (fun n bs i wr => ∃ k v : Nat, k ≤ t.size ∧ i = .int .i64 k ∧ n = .int .i64 v ∧ bs = .int .i64 (6 * k : Nat) ∧ Hid (v < 64 ^ k ∧ valL (t.data.toList.drop k) v = valL t.data.toList 0) ∧ Below W1.heap.size W1 wr)
    (fun _ _ i _ => t.size - (intOf i).toNat)
  case atStart => exact ⟨0, 0, Nat.zero_le _, rfl, rfl, rfl, Lib.hid ⟨by simp, rfl⟩, Below.refl _ _⟩
  case round =>
    obtain ⟨k, v, hk, rfl, rfl, rfl, hv, hB⟩ := hrel
    by_cases hlt : k < t.size
    · have hcell : wr.cell? ⟨w.heap.size, k, none⟩ = some (.int .u8 (t[k].toNat : Int)) := (hB.cell (p := ⟨w.heap.size, k, none⟩) hz1).trans (hcl k hlt)
      have hd : t.data.toList.drop k = t[k] :: t.data.toList.drop (k + 1) := by
        rw [List.drop_eq_getElem_cons (by simpa using hlt)]; rfl
      have hvo := hv.out
      rw [hd, valL] at hvo
      have hcw : ∀ j, j < 64 → wr.cell? ⟨b, j, none⟩ = some (.int .u8 (sg j : Nat)) := fun j hj => ((hB.cell (p := ⟨b, j, none⟩) (by simp; omega)).trans (hBw.cell (p := ⟨b, j, none⟩) hb)).trans (hc j hj)
      have hk3 : k = 0 ∨ k = 1 ∨ k = 2 ∨ k = 3 := by omega
      have hvb : v < 64 ^ 3 := Nat.lt_of_lt_of_le hvo.1 (Nat.pow_le_pow_right (by decide) (by omega))
      have hv3 : (v : Int) < 262144 := by omega
      clear hcl hc hv hd
      have Hcw := Lib.hid hcw
      clear hcw
      cases hw : worthL t[k] with
      | none =>
        have hu : u = none := by
          have h := Hu.out
          rw [← hvo.2, hw] at h
          simpa using h
        have Hu2 := Lib.hid hu
        have Hw := Lib.hid hw
        clear hu hvo hw hk3 hvb
        go_wp2_with fail
        refine (worth_any b t[k] _ Hcw.out).mono ?_
        rintro e w2 ⟨rfl, hB2⟩
        rw [Hw.out]
        simp only [Option.getD_none, Option.isSome_none]
        go_wp2
        go_ret2
        refine ⟨?_, hBw.trans ((hB.mono (by omega)).trans (hB2.mono (by have := hB.size; omega)))⟩
        rw [Hu2.out]
        rfl
      | some x =>
        obtain ⟨hx, _⟩ := worthL_some hw
        have Hv := Lib.hid (show v * 64 + x < 64 ^ (k + 1) ∧ valL (t.data.toList.drop (k + 1)) (v * 64 + x) = valL t.data.toList 0 from ⟨by rw [Nat.pow_succ]; omega, by rw [← hvo.2, hw]; rfl⟩)
        have Hw := Lib.hid hw
        have ho := i64_or_lo v x hx (by omega)
        clear hvo hw hk3 hvb
        go_wp2_with fail
        refine (worth_any b t[k] _ Hcw.out).mono ?_
        rintro e w2 ⟨rfl, hB2⟩
        rw [Hw.out]
        simp only [Option.getD_some, Option.isSome_some]
        go_wp2
        go_roundw
        case rel => exact ⟨k + 1, v * 64 + x, by omega, by go_num, by go_num, by go_num, Hv, hB.trans (hB2.mono hB.size)⟩
        case measure => simp [intOf]; omega
    · have hkt : t.size = k := by omega
      have hvo := hv.out
      obtain ⟨K, hK⟩ : ∃ K : Nat, K = 6 * k / 8 := ⟨_, rfl⟩
      obtain ⟨N, hN⟩ : ∃ N : Nat, N = v / 2 ^ (6 * k % 8) := ⟨_, rfl⟩
      have hu : u = some (outB N K) := by
        rw [Hu.out, ← hvo.2, List.drop_of_length_le (by simp; omega), valL, hN, hK, hkt]; rfl
      have hKi : 6 * (k : Int) / 8 = (K : Int) := by omega
      have hNi : (v : Int) / 2 ^ (6 * k % 8) = (N : Int) := by rw [hN]; push_cast; rfl
      have hK3 : K ≤ 3 := by omega
      have hN4 : N < 64 ^ 4 := Nat.lt_of_le_of_lt (by rw [hN]; exact Nat.div_le_self _ _) (Nat.lt_of_lt_of_le hvo.1 (Nat.pow_le_pow_right (by decide) (by omega)))
      have Hu2 := Lib.hid hu
      have Hkt := Lib.hid hkt
      have HKi := Lib.hid hKi
      have HNi := Lib.hid hNi
      clear hvo hv hK hN hu hkt hcl hc hKi hNi
      obtain ⟨B6, hB6⟩ : ∃ B6 : Nat, B6 = 6 * k := ⟨_, rfl⟩
      have HB6 := Lib.hid hB6
      clear hB6
      go_wp2_with fail
      rw [HNi.out, HKi.out, ← HB6.out]
      obtain ⟨wo, rfl⟩ : ∃ wo : World, wo = wr := ⟨_, rfl⟩
      go_loopw [14, 15] (fun o i wi => ∃ j : Nat, j ≤ K ∧ i = .int .i64 ((K : Int) - 1 - j) ∧ wi.ownsRow w.heap.size 5 1 o j (Lib.byteCells ((outB N K).take j)) ∧ Below w.heap.size w wi ∧ w.heap.size < wi.heap.size)
        (fun _ i _ => (intOf i + 1).toNat)
      case atStart => exact ⟨0, Nat.zero_le _, by simp, World.ownsRow_nil _ _ _ _, hBw.trans (hB.mono (by omega)), by have := hB.size; omega⟩
      case round =>
        obtain ⟨j, hj, rfl, hown, hBi, hzi⟩ := hrel
        by_cases hjl : j < K
        · have hX : (N : Int) / 2 ^ (8 * (K - 1 - j)) % 256 = (((outB N K)[j]'(by simp [outB]; exact hjl)).toNat : Int) := by
            simp only [outB, List.getElem_map, List.getElem_range]
            rw [show (256 : Nat) = 2 ^ 8 from rfl, ← Nat.pow_mul]
            simp
          have HX := Lib.hid hX
          clear hX
          go_wp2_with (at_builtin; refine wpList_append_own _ rfl _ _ 36 rfl w.heap.size 5 i0 (.int .u8 0) 1 1 Tryz.underlying36 hi0 hz0 hz1' hz2 rfl (by decide) _ _ _ rfl (hown.alloc _) ⟨wr.heap.size, 0, none⟩ 1 1 [.int .u8 ((N : Int) / 2 ^ (8 * (K - 1 - j)) % 256)] rfl rfl ?c1 ?c2 ?c3 ?c4 ?c5 ?_)
          case c1 => exact cell_one_new _ _ _
          case c2 => intro u hu; simp at hu; subst hu; rfl
          case c3 => unfold maxLen; omega
          case c4 => omega
          case c5 => simp; omega
          intro v' w2 hown' hgrow _
          go_wp2
          go_roundw
          case rel =>
            refine ⟨j + 1, by omega, by congr 1; omega, ?_, (hBi.alloc (by omega) _).grown hgrow (by simp; omega) (fun k hk => (hown.lt k hk).1), by have := hgrow.size; simp at this; omega⟩
            rw [HX.out] at hown'
            rw [List.take_succ_eq_append_getElem (by simp [outB]; exact hjl), Lib.byteCells_append]
            exact hown'
          case measure => simp [intOf]; omega
        · have cv := conv_own wr w.heap.size j _ _ hown
          obtain rfl : j = K := by omega
          go_wp2
          go_ret2
          refine ⟨?_, hBi⟩
          rw [Hu2.out, ungroupV, List.take_of_length_le (by simp [outB])]
          rfl
end Go.Proofs.YtbocflglknkiaaaGreatDoor
