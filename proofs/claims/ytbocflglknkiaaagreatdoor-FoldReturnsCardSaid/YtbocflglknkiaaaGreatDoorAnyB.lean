/- strings.ContainsAny(s, "\r\n") at any text: IndexAny. -/
import Derived.Test.YtbocflglknkiaaaGreatDoorAny
import Derived.Lib.OthersKept
namespace Go.Proofs.YtbocflglknkiaaaGreatDoor
open Go.RowKit Go.Shelf

def idxK (R : Nat) : Int := if R = 13 then 0 else if R = 10 then 1 else -1
theorem idxRune_all (R : Nat) (hR2 : R ≤ 1114111) (w : World) : Calls Tryz.prog 48 #[.string ⟨#[13, 10]⟩, .int .i32 (R : Int)] w fun e w' => e = .returned (.int .i64 (idxK R)) ∧ Below w.heap.size w w' := by
  by_cases h : R < 128
  · refine (Tryz.strings_IndexRune_ascii ⟨#[13, 10]⟩ (R : Int) w (by omega) (by omega)).mono ?_
    rintro e w' ⟨rfl, h2⟩
    refine ⟨?_, by rw [h2]; exact Below.refl _ _⟩
    congr 2
    rw [Int.toNat_natCast]
    have : ∀ r : Fin 128, Lib.indexByte [13, 10] r.val.toUInt8 = idxK r.val := by decide
    exact this ⟨R, h⟩
  · refine (idxRune_any R (by omega) hR2 w).mono ?_
    rintro e w' ⟨rfl, h2⟩
    refine ⟨?_, h2⟩
    rw [idxK, if_neg (by omega), if_neg (by omega)]

set_option maxHeartbeats 8000000 in
set_option maxRecDepth 1000000 in
theorem idxAny_short (s : ByteArray) (h8 : s.size ≤ 8) (w : World) : Calls Tryz.prog 30 #[.string s, .string ⟨#[13, 10]⟩] w fun e w' => e = .returned (.int .i64 (Lib.idxFunc crlf true s)) ∧ Below w.heap.size w w' := by
  have h8z : decide ((8 : Int) < (s.size : Int)) = false := decide_eq_false (by omega)
  have hsu : ∀ W, Calls Tryz.prog 49 #[.int .i64 (s.size : Int)] W fun e w' => e = .returned (.bool false) ∧ w' = W := fun W => (Tryz.strings_shouldUseASCIISet _ W).mono fun e w' h => ⟨by rw [h.1, h8z], h.2⟩
  go_enter Tryz.func30, Tryz.ntmps30
  go_wp2_with fail
  refine (hsu _).mono ?_
  rintro e w1 ⟨rfl, h1⟩
  obtain rfl := h1.symm
  go_wp2
  go_loopg [9, 10] s.size (fun gf _ _ wx => ∃ pos : Nat, wx.heap[w.heap.size]? = some (.stringIter s pos) ∧ Below w.heap.size w wx ∧ Hid (Lib.idxFuncFrom crlf true s gf pos = Lib.idxFunc crlf true s) ∧ s.size ≤ pos + gf)
  case atStart => exact ⟨0, World.iter_heap w s 0, (Below.refl _ w).alloc (Nat.le_refl _) _, Lib.hid rfl, by omega⟩
  case round =>
    obtain ⟨pos, hit, hbw, hleft, hfu⟩ := hrel
    by_cases hps : pos < s.size
    · obtain ⟨g', rfl⟩ : ∃ g', gk = g' + 1 := ⟨gk - 1, by omega⟩
      have hnx : ∀ ty, (Instr.next (.pointer (some ⟨w.heap.size, 0, none⟩)) true ty).run Tryz.prog wr = _ := fun ty => Lib.run_next_any_at wr w.heap.size s pos ty hit hps
      have hwd := Lib.width_pos s pos
      have hRle := Lib.rune_le s pos
      obtain ⟨R, hR⟩ : ∃ R, (Utf8.decode s pos).1 = R := ⟨_, rfl⟩
      obtain ⟨K, hK⟩ : ∃ K, (Utf8.decode s pos).2 = K := ⟨_, rfl⟩
      have hl2 := hleft.out
      simp only [Lib.idxFuncFrom, hps, if_true, hR, hK] at hl2
      rw [hR, hK] at hnx
      rw [hK] at hwd
      rw [hR] at hRle
      have hit2 := Lib.iterAt_heap wr w.heap.size s pos (pos + K) hit
      have hbw2 := Lib.below_iterAt hbw (k := w.heap.size) (Nat.le_refl _) s (pos + K)
      obtain ⟨W, hWd⟩ : ∃ W, wr.iterAt w.heap.size s (pos + K) = W := ⟨_, rfl⟩
      rw [hWd] at hnx hit2 hbw2
      have Hix := Lib.hid (idxRune_all R hRle W)
      have Hit2 := Lib.hid hit2
      have HB2 := Lib.hid hbw2
      clear hit hbw hleft hWd hit2 hbw2
      cases hsp : crlf R with
      | true =>
        rw [if_pos hsp] at hl2
        have hk : decide ((0 : Int) ≤ idxK R) = true := by
          unfold crlf at hsp
          simp at hsp
          rcases hsp with rfl | rfl <;> rfl
        have Hl2 := Lib.hid hl2
        clear hl2 hsp
        go_wp2_with fail
        refine Hix.out.mono ?_
        rintro e W2 ⟨rfl, hB3⟩
        go_wp2
        go_ret
        exact ⟨by rw [← Hl2.out]; rfl, HB2.out.trans (hB3.mono HB2.out.size)⟩
      | false =>
        rw [if_neg (by simp [hsp])] at hl2
        have hk : decide ((0 : Int) ≤ idxK R) = false := by
          unfold crlf at hsp
          simp at hsp
          rw [idxK, if_neg hsp.1, if_neg hsp.2]; rfl
        have Hl2 := Lib.hid hl2
        clear hl2 hsp
        go_wp2_with fail
        refine Hix.out.mono ?_
        rintro e W2 ⟨rfl, hB3⟩
        have hWlt := (Array.getElem?_eq_some_iff.1 Hit2.out).1
        go_wp2
        go_roundg g'
        case measure => omega
        case rel => exact ⟨pos + K, (hB3.block _ hWlt).trans Hit2.out, HB2.out.trans (hB3.mono HB2.out.size), Hl2, by omega⟩
    · have hnx : ∀ ty, (Instr.next (.pointer (some ⟨w.heap.size, 0, none⟩)) true ty).run Tryz.prog wr = _ := fun ty => Lib.run_next_end_at wr w.heap.size s pos ty hit hps
      have hl2 := hleft.out
      rw [Lib.idxFuncFrom_end crlf true s gk pos hps] at hl2
      have Hl2 := Lib.hid hl2
      clear hl2 hleft
      go_wp2
      go_ret
      exact ⟨by rw [← Hl2.out]; rfl, hbw⟩
end Go.Proofs.YtbocflglknkiaaaGreatDoor
