/- strings.ContainsAny(s, "\r\n") at any text. -/
import Derived.Test.YtbocflglknkiaaaGreatDoorAnyB
namespace Go.Proofs.YtbocflglknkiaaaGreatDoor
open Go.RowKit Go.Shelf

theorem indexAny_crlf (l : List UInt8) : decide (0 ≤ Lib.indexAny l [13, 10]) = hasCrlf l := by
  induction l with
  | nil => rfl
  | cons b l ih =>
    have hge := Lib.indexAny_ge [13, 10] l
    rw [hasCrlf] at ih
    rw [Lib.indexAny, hasCrlf, List.any_cons, ← ih]
    have hb : ([13, 10] : List UInt8).contains b = crlf b.toNat := by
      have : ∀ b : Fin 256, ([13, 10] : List UInt8).contains b.val.toUInt8 = crlf b.val := by decide +kernel
      have h := this ⟨b.toNat, b.toNat_lt⟩
      simpa using h
    rw [hb]
    cases crlf b.toNat with
    | true => simp
    | false =>
      simp only [Bool.false_eq_true, if_false, Bool.false_or]
      by_cases hi : Lib.indexAny l [13, 10] = -1
      · simp [hi]
      · have e : (Lib.indexAny l [13, 10] == -1) = false := by rw [beq_eq_false_iff_ne]; exact hi
        rw [e]
        simp only [Bool.false_eq_true, if_false]
        rw [decide_eq_true (show 0 ≤ Lib.indexAny l [13, 10] + 1 by omega), decide_eq_true (show 0 ≤ Lib.indexAny l [13, 10] by omega)]
def AnyPost (s : ByteArray) (w : World) (e : Ending) (w' : World) : Prop := ∃ r : Int, e = .returned (.int .i64 r) ∧ Hid (decide (0 ≤ r) = hasCrlf s.data.toList) ∧ Below w.heap.size w w'
theorem zeroSet (w : World) : (zeroValue 95).run Tryz.prog w = .ok (.agg (Array.replicate 256 (.bool false))) w := by kernel_rfl
theorem idxAny_any (s : ByteArray) (hs : s.size < 4294967281) (w : World) : Calls Tryz.prog 30 #[.string s, .string ⟨#[13, 10]⟩] w (AnyPost s w) := by
  rcases Nat.lt_or_ge 8 s.size with h | h
  · refine (Tryz.strings_IndexAny_long zeroSet s ⟨#[13, 10]⟩ w (by decide) h hs (by decide) (fun j b hb => ?_)).mono ?_
    · match j, hb with
      | 0, hb => simp at hb; subst hb; decide
      | 1, hb => simp at hb; subst hb; decide
    · rintro e w' ⟨rfl, rfl⟩
      exact ⟨_, rfl, Lib.hid (indexAny_crlf _), ((Below.refl _ _).alloc (Nat.le_refl _) _).alloc (by simp) _⟩
  · refine (idxAny_short s h w).mono ?_
    rintro e w' ⟨rfl, hB⟩
    refine ⟨_, rfl, Lib.hid ?_, hB⟩
    rw [idxFunc_bytes0 crlf (fun r hr => by simp [crlf]; omega)]
    rfl
theorem containsAny_any (s : ByteArray) (hs : s.size < 4294967281) (w : World) : Calls Tryz.prog 18 #[.string s, .string ⟨#[13, 10]⟩] w fun e w' => e = .returned (.bool (hasCrlf s.data.toList)) ∧ Below w.heap.size w w' := by
  go_enter Tryz.func18, Tryz.ntmps18
  go_wp2_with fail
  refine (idxAny_any s hs _).mono ?_
  rintro e w1 ⟨r, rfl, hr, hB⟩
  go_wp2
  go_ret
  exact ⟨by rw [← hr.out]; rfl, hB⟩
end Go.Proofs.YtbocflglknkiaaaGreatDoor
