/- strings.ContainsAny(s, "\r\n") at any text. -/
import Derived.Test.YtbocflglknkiaaaGreatDoorUnf
import Derived.Lib.TrimU
import Derived.Scope
import Derived.WalkMore
namespace Go.Proofs.YtbocflglknkiaaaGreatDoor
open Go.RowKit Go.Shelf

theorem get_get (s : ByteArray) (i : Nat) (h : i < s.size) : s.get! i = s[i] := by
  show s.get! i = _
  simp [ByteArray.get!, getElem!_pos, h]
  rfl
theorem decode_span (s : ByteArray) (pos : Nat) (hlt : pos < s.size) (ha : 128 ≤ (s.get! pos).toNat) : ∀ j, pos ≤ j → j < pos + (Utf8.decode s pos).2 → 128 ≤ (s.get! j).toNat := by
  intro j h1 h2
  unfold Utf8.decode at h2
  simp only [Nat.add_zero] at h2
  by_cases hj : j = pos
  · subst hj; exact ha
  have hk : ∀ k, ((s.get! (pos + k)).toNat / 64 == 2) = true → 128 ≤ (s.get! (pos + k)).toNat := fun k h => by
    have := beq_iff_eq.1 h; omega
  rw [if_neg (by omega)] at h2
  split at h2
  · rename_i hc
    simp only [Bool.and_eq_true] at hc
    have e1 := hk 1 hc.2.2
    split at h2
    · obtain rfl : j = pos + 1 := by simp at h2; omega
      exact e1
    · simp at h2; omega
  · split at h2
    · rename_i hc
      simp only [Bool.and_eq_true] at hc
      have e1 := hk 1 hc.1.2.2
      have e2 := hk 2 hc.2.2
      split at h2
      · rcases (show j = pos + 1 ∨ j = pos + 2 by simp at h2; omega) with rfl | rfl <;> assumption
      · simp at h2; omega
    · split at h2
      · rename_i hc
        simp only [Bool.and_eq_true] at hc
        have e1 := hk 1 hc.1.1.2.2
        have e2 := hk 2 hc.1.2.2
        have e3 := hk 3 hc.2.2
        split at h2
        · rcases (show j = pos + 1 ∨ j = pos + 2 ∨ j = pos + 3 by simp at h2; omega) with rfl | rfl | rfl <;> assumption
        · simp at h2; omega
      · simp at h2; omega

/-- A test that no sign from 128 on passes: it passes at a text just if it passes at one of its bytes. -/
theorem idxFunc_bytes0 (p : Nat → Bool) (hp : ∀ r, 128 ≤ r → p r = false) (s : ByteArray) : decide (0 ≤ Lib.idxFunc p true s) = s.data.toList.any fun b => p b.toNat := by
  suffices h : ∀ f pos, s.size - pos ≤ f → decide (0 ≤ Lib.idxFuncFrom p true s f pos) = (s.data.toList.drop pos).any fun b => p b.toNat by
    have := h s.size 0 (by omega)
    rw [List.drop_zero] at this
    exact this
  intro f
  induction f with
  | zero =>
    intro pos h
    rw [List.drop_of_length_le (by simp; omega)]
    simp [Lib.idxFuncFrom]
  | succ f ih =>
    intro pos h
    unfold Lib.idxFuncFrom
    by_cases hlt : pos < s.size
    · rw [if_pos hlt]
      by_cases ha : s[pos].toNat < 128
      · have hd : s.data.toList.drop pos = s[pos] :: s.data.toList.drop (pos + 1) := by
          rw [List.drop_eq_getElem_cons (by simpa using hlt)]; rfl
        rw [hd, List.any_cons, decode_ascii s pos hlt ha]
        by_cases hq : p s[pos].toNat = true
        · simp [hq]
        · rw [if_neg hq, ih (pos + 1) (by omega)]
          have hq' : p s[pos].toNat = false := by simpa using hq
          rw [hq', Bool.false_or]
      · have hh := decode_high s pos hlt (by omega)
        have hw := Lib.width_pos s pos
        have hg : s.get! pos = s[pos] := by
          exact get_get s pos hlt
        have hsp := decode_span s pos hlt (by rw [hg]; omega)
        obtain ⟨K, hK⟩ : ∃ K, (Utf8.decode s pos).2 = K := ⟨_, rfl⟩
        rw [hK] at hsp hw ⊢
        rw [hp _ hh.1]
        simp only [Bool.false_eq_true, if_false]
        rw [ih (pos + K) (by omega), ← List.take_append_drop K (s.data.toList.drop pos), List.any_append, List.drop_drop]
        have : ((s.data.toList.drop pos).take K).any (fun b => p b.toNat) = false := by
          rw [List.any_eq_false]
          intro b hb
          obtain ⟨i, hi, rfl⟩ := List.mem_iff_getElem.1 hb
          have hi' : i < K ∧ pos + i < s.size := by simp at hi; omega
          rw [List.getElem_take, List.getElem_drop]
          have := hsp (pos + i) (by omega) (by omega)
          have h9 : s.get! (pos + i) = s.data.toList[pos + i]'(by simpa using hi'.2) := by
            exact get_get s (pos + i) hi'.2
          rw [h9] at this
          rw [hp _ this]
          simp
        rw [this, Bool.false_or]
    · rw [if_neg hlt, List.drop_of_length_le (by simp; omega)]
      simp

def crlf (x : Nat) : Bool := x == 13 || x == 10
def hasCrlf (l : List UInt8) : Bool := l.any fun b => crlf b.toNat

theorem encode_shape (R : Nat) (hv : Utf8.valid (R : Int) = true) (h : 128 ≤ R) :
    (∃ x y, Utf8.encode (R : Int) = ⟨#[x, y]⟩ ∧ 128 ≤ y.toNat) ∨ (∃ x y z, Utf8.encode (R : Int) = ⟨#[x, y, z]⟩) ∨ (∃ x y z u, Utf8.encode (R : Int) = ⟨#[x, y, z, u]⟩) := by
  have hc : ¬ R < 128 := by omega
  unfold Utf8.encode
  simp only [hv, if_true, Int.toNat_natCast, hc, if_false]
  split
  · refine .inl ⟨_, _, rfl, ?_⟩
    simp; omega
  · split
    · exact .inr (.inl ⟨_, _, _, rfl⟩)
    · exact .inr (.inr ⟨_, _, _, _, rfl⟩)
set_option maxHeartbeats 8000000 in
set_option maxRecDepth 1000000 in
theorem idxRune_any (R : Nat) (hR : 128 ≤ R) (hR2 : R ≤ 1114111) (w : World) : Calls Tryz.prog 48 #[.string ⟨#[13, 10]⟩, .int .i32 (R : Int)] w fun e w' => e = .returned (.int .i64 (-1)) ∧ Below w.heap.size w w' := by
  have e0 : decide ((R : Int) < 128) = false := by simp; omega
  have e1 : decide ((0 : Int) ≤ (R : Int)) = true := by simp
  by_cases hE : R = 65533
  · subst hE
    go_enter Tryz.func48, Tryz.ntmps48
    go_wp2
    go_loopg [5, 6] 2 (fun g _ _ wx => ∃ i : Nat, i + g = 2 ∧ wx = w.iter ⟨#[13, 10]⟩ i)
    case atStart => exact ⟨0, by omega, rfl⟩
    case round =>
      obtain ⟨i, hig, rfl⟩ := hrel
      cases gk with
      | zero =>
        obtain rfl : i = 2 := by omega
        have hnx := fun ty => run_next_end (P := Tryz.prog) w ⟨#[13, 10]⟩ 2 ty
        go_wp2
        go_ret
        exact ⟨rfl, (Below.refl _ _).alloc (Nat.le_refl _) _⟩
      | succ g =>
        rcases (show i = 0 ∨ i = 1 by omega) with rfl | rfl
        · have hnx := fun ty => run_next_ascii (P := Tryz.prog) w ⟨#[13, 10]⟩ 0 ty (by decide) (by decide)
          go_wp2
          go_roundg g
          case measure => omega
          case rel => exact ⟨1, by omega, rfl⟩
        · have hnx := fun ty => run_next_ascii (P := Tryz.prog) w ⟨#[13, 10]⟩ 1 ty (by decide) (by decide)
          go_wp2
          go_roundg g
          case measure => omega
          case rel => exact ⟨2, by omega, rfl⟩
  · have e2 : ((R : Int) == 65533) = false := by rw [beq_eq_false_iff_ne]; omega
    cases hv : Lib.validRune (R : Int) with
    | false =>
      have HV := Lib.hid hv
      clear hv
      go_enter Tryz.func48, Tryz.ntmps48
      go_wp2_with fail
      refine (Tryz.utf8_ValidRune (R : Int) _).mono ?_
      rintro e w1 ⟨rfl, h1⟩
      obtain rfl := h1.symm
      rw [HV.out]
      go_wp2
      go_ret
      exact ⟨rfl, Below.refl _ _⟩
    | true =>
      have HV := Lib.hid hv
      clear hv
      go_enter Tryz.func48, Tryz.ntmps48
      go_wp2_with fail
      refine (Tryz.utf8_ValidRune (R : Int) _).mono ?_
      rintro e w1 ⟨rfl, h1⟩
      obtain rfl := h1.symm
      rw [HV.out]
      have hcv : ∀ w, (convert 21 9 (.int .i32 (R : Int))).run Tryz.prog w = .ok (.string (Utf8.encode R)) w := fun w => run_convert_int_string w _ _ _ _ (by rw [Tryz.underlying21]; rfl) Tryz.underlying9
      have hvv : Utf8.valid (R : Int) = true := by
        have := HV.out
        unfold Lib.validRune at this
        unfold Utf8.valid
        simp at this ⊢
        omega
      rcases encode_shape R hvv hR with ⟨x, y, he, hy⟩ | ⟨x, y, z, he⟩ | ⟨x, y, z, u, he⟩
      · rw [he] at hcv
        have hyn : ((((⟨#[13, 10]⟩ : ByteArray)[1]'(by decide)).toNat : Int) != (((⟨#[x, y]⟩ : ByteArray)[1]'(by show 1 < 2; decide)).toNat : Int)) = true := by
          rw [bne_iff_ne]
          show (10 : Int) ≠ (y.toNat : Int)
          omega
        clear hvv he
        go_wp2_with fail
        refine wp_scope_straight ?_
        go_wp2
        go_loopw [9] (fun p wr => p = .int .i64 1 ∧ wr = w) (fun _ _ => 0)
        case atStart => exact ⟨rfl, rfl⟩
        case round =>
          obtain ⟨rfl, rfl⟩ := hrel
          go_wp2
          refine wp_scope_straight ?_
          go_wp2
          go_region
          go_wp2
          have hib : ∀ (c : Int) (W : World), Calls Tryz.prog 75 #[.string ((⟨#[13, 10]⟩ : ByteArray).extract 2 2), .int .u8 c] W fun e w' => e = .returned (.int .i64 (-1)) ∧ w' = W := fun c W =>
            (Tryz.strings_IndexByte _ c W).mono fun e w' h => ⟨h.1, h.2⟩
          go_region_with (go_at_call 75; refine (hib _ _).mono ?_; rintro e w' ⟨rfl, rfl⟩)
          all_goals (try go_wp2)
          all_goals (simp (config := { zetaDelta := true }) only [Exit.noGoto_ret, Exit.inBlock, Exit.then])
          all_goals go_ret
          all_goals exact ⟨rfl, ⟨rfl, rfl, rfl, Nat.le_refl _, fun _ _ => rfl⟩⟩
      · rw [he] at hcv
        clear hvv he
        go_wp2_with fail
        refine wp_scope_straight ?_
        go_wp2
        go_loopw [9] (fun p wr => p = .int .i64 2 ∧ wr = w) (fun _ _ => 0)
        case atStart => exact ⟨rfl, rfl⟩
        case round =>
          obtain ⟨rfl, rfl⟩ := hrel
          go_wp2
          rw [Exit.noGoto_ret]
          go_ret
          exact ⟨rfl, Below.refl _ _⟩
      · rw [he] at hcv
        clear hvv he
        go_wp2_with fail
        refine wp_scope_straight ?_
        go_wp2
        go_loopw [9] (fun p wr => p = .int .i64 3 ∧ wr = w) (fun _ _ => 0)
        case atStart => exact ⟨rfl, rfl⟩
        case round =>
          obtain ⟨rfl, rfl⟩ := hrel
          go_wp2
          rw [Exit.noGoto_ret]
          go_ret
          exact ⟨rfl, Below.refl _ _⟩
end Go.Proofs.YtbocflglknkiaaaGreatDoor
