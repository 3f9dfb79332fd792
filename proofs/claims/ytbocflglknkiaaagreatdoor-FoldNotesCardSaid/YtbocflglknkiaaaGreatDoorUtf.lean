/- utf.IsSafe: whether a text may stand in a line. -/
import Derived.Test.YtbocflglknkiaaaGreatDoorIter
import Derived.Shelf.Strings.FuncGrows
import Derived.Deep.RegionHeld3
import Derived.Laws.RangeAny
namespace Go.Proofs.YtbocflglknkiaaaGreatDoor
open Go.RowKit Go.Shelf

/-- A test of signs that every sign from 128 on passes: it passes at a text just if it passes at one of its bytes. -/
theorem idxFunc_bytes (p : Nat → Bool) (hp : ∀ r, 128 ≤ r → p r = true) (s : ByteArray) : decide (0 ≤ Lib.idxFunc p true s) = s.data.toList.any fun b => p b.toNat := by
  suffices h : ∀ f pos, s.size - pos ≤ f → decide (0 ≤ Lib.idxFuncFrom p true s f pos) = (s.data.toList.drop pos).any fun b => p b.toNat by
    have := h s.size 0 (by omega)
    rw [List.drop_zero] at this
    exact this
  intro f
  induction f with
  | zero =>
    intro pos h
    rw [List.drop_of_length_le (by simp; omega)]
    simp [Lib.idxFuncFrom]
  | succ f ih =>
    intro pos h
    unfold Lib.idxFuncFrom
    by_cases hlt : pos < s.size
    · rw [if_pos hlt]
      have hd : s.data.toList.drop pos = s[pos] :: s.data.toList.drop (pos + 1) := by
        rw [List.drop_eq_getElem_cons (by simpa using hlt)]; rfl
      rw [hd, List.any_cons]
      by_cases ha : s[pos].toNat < 128
      · rw [decode_ascii s pos hlt ha]
        by_cases hq : p s[pos].toNat = true
        · simp [hq]
        · rw [if_neg hq, ih (pos + 1) (by omega)]
          have hq' : p s[pos].toNat = false := by simpa using hq
          rw [hq', Bool.false_or]
      · have hh := decode_high s pos hlt (by omega)
        rw [hp _ hh.1, hp s[pos].toNat (by omega)]
        simp
    · rw [if_neg hlt, List.drop_of_length_le (by simp; omega)]
      simp

def otherP (x : Nat) : Bool := x == 0 || x == 10 || x == 13 || decide (128 ≤ x)
theorem isOther1 (x : Nat) (hx : x ≤ 1114111) (w : World) : Calls Tryz.prog 39 #[encR x] w fun e w' => e = .returned (.bool (otherP x)) ∧ w = w' := by
  by_cases h0 : x = 0
  · subst h0
    go_enter Tryz.func39, Tryz.ntmps39
    go_wp2
    go_ret
    exact ⟨rfl, rfl⟩
  · by_cases h1 : x = 10
    · subst h1
      go_enter Tryz.func39, Tryz.ntmps39
      go_wp2
      go_ret
      exact ⟨rfl, rfl⟩
    · by_cases h2 : x = 13
      · subst h2
        go_enter Tryz.func39, Tryz.ntmps39
        go_wp2
        go_ret
        exact ⟨rfl, rfl⟩
      · have e0 : ((x : Int) == 0) = false := by rw [beq_eq_false_iff_ne]; omega
        have e1 : ((x : Int) == 10) = false := by rw [beq_eq_false_iff_ne]; omega
        have e2 : ((x : Int) == 13) = false := by rw [beq_eq_false_iff_ne]; omega
        have hv : otherP x = decide ((128 : Int) ≤ (x : Int)) := by
          have : ((128 : Int) ≤ (x : Int)) ↔ 128 ≤ x := by omega
          simp [otherP, h0, h1, h2, this]
        have Hv := Lib.hid hv
        clear hv h0 h1 h2
        go_enter Tryz.func39, Tryz.ntmps39
        go_wp2
        go_ret
        refine ⟨?_, rfl⟩
        rw [Hv.out]
        rfl
/-- Does a sign that may not stand in a line stand in a text? -/
def hasOther (l : List UInt8) : Bool := l.any fun b => otherP b.toNat
theorem safe_contains (s : ByteArray) (w : World) : Calls Tryz.prog 38 #[.string s, .func (.func 39) #[] #[]] w fun e w' => e = .returned (.bool (hasOther s.data.toList)) ∧ Below w.heap.size w w' := by
  have := Tryz.strings_ContainsFunc_grows 39 #[] (enters_of Tryz.func39 (by kernel_rfl) rfl) otherP s w (fun W x hx _ => (isOther1 x hx W).mono fun e w' ⟨h1, h2⟩ => ⟨h1, by subst h2; exact Below.refl _ _⟩)
  rw [idxFunc_bytes otherP (fun r hr => by simp [otherP, hr])] at this
  exact this

/-- The closure over the text: whether it begins with t. -/
theorem begins_any (b : Nat) (s t : ByteArray) (w : World) (hb : w.cell? ⟨b, 0, none⟩ = some (.string s)) :
    Calls Tryz.prog 40 #[.string t, .pointer (some ⟨b, 0, none⟩)] w fun e w' => e = .returned (.bool (Lib.hasPrefix s.data.toList t.data.toList)) ∧ w = w' := by
  go_enter Tryz.func40, Tryz.ntmps40
  go_wp2_with fail
  refine (Tryz.strings_HasPrefix s t _).mono ?_
  rintro e w1 ⟨rfl, h1⟩
  obtain rfl := h1.symm
  go_wp2
  go_ret
  exact ⟨rfl, rfl⟩

def noneL (l : List Bool) : Bool := !(l.any id)
theorem isNone_any (b : Nat) (l : List Bool) (w : World) (hl : l.length ≤ 100) (_hb : b < w.heap.size) (hc : ∀ i (h : i < l.length), w.cell? ⟨b, i, none⟩ = some (.bool l[i])) :
    Calls Tryz.prog 41 #[.slice (some ⟨b, 0, none⟩) l.length l.length] w fun e w' => e = .returned (.bool (noneL l)) ∧ w = w' := by
  go_enter Tryz.func41, Tryz.ntmps41
  go_wp2
  go_loop [7] (fun i => ∃ k : Nat, k ≤ l.length ∧ i = .int .i64 k ∧ Hid (noneL (l.drop k) = noneL l))
    (fun i => l.length - (intOf i).toNat)
  case atStart => exact ⟨0, Nat.zero_le _, rfl, Lib.hid rfl⟩
  case round =>
    obtain ⟨k, hk, rfl, hf⟩ := hrel
    by_cases hlt : k < l.length
    · have hc1 := hc k hlt
      obtain ⟨q, hq⟩ : ∃ q, l[k] = q := ⟨_, rfl⟩
      have hd : l.drop k = q :: l.drop (k + 1) := by rw [List.drop_eq_getElem_cons hlt, hq]
      have hfo := hf.out
      rw [hd] at hfo
      rw [hq] at hc1
      have H := Lib.hid hfo
      clear hf hfo hd hq hc
      cases q
      · go_wp2
        go_round
        case rel => exact ⟨k + 1, by omega, by go_num, Lib.hid (by rw [← H.out]; simp [noneL])⟩
        case measure => simp [intOf]; omega
      · go_wp2
        go_ret
        exact ⟨by rw [← H.out]; simp [noneL], rfl⟩
    · have hfo := hf.out
      rw [List.drop_of_length_le (by omega)] at hfo
      have H := Lib.hid hfo
      clear hf hfo hc
      go_wp2
      go_ret
      exact ⟨by rw [← H.out]; rfl, rfl⟩

/-- May a text stand in a line? -/
def isSafeL (l : List UInt8) : Bool := !(hasOther l) && !Lib.hasPrefix l [32] && !Lib.hasPrefix l [58] && !Lib.hasPrefix l [60] && !Lib.hasSuffix l [32]

theorem five_cells (w : World) (b1 b2 b3 b4 b5 : Bool) : ∀ i (h : i < [b1, b2, b3, b4, b5].length), (w.alloc (.cells #[.bool b1, .bool b2, .bool b3, .bool b4, .bool b5] 4)).cell? ⟨w.heap.size, i, none⟩ = some (.bool [b1, b2, b3, b4, b5][i]) := by
  intro i h
  rcases i with _ | _ | _ | _ | _ | i
  · simp
  · simp
  · simp
  · simp
  · simp
  · simp at h; omega
theorem isNone_five (b1 b2 b3 b4 b5 : Bool) (w : World) : Calls Tryz.prog 41 #[.slice (some ⟨w.heap.size, 0, none⟩) 5 5] (w.alloc (.cells #[.bool b1, .bool b2, .bool b3, .bool b4, .bool b5] 4))
    fun e w' => e = .returned (.bool (noneL [b1, b2, b3, b4, b5])) ∧ (w.alloc (.cells #[.bool b1, .bool b2, .bool b3, .bool b4, .bool b5] 4)) = w' :=
  isNone_any w.heap.size [b1, b2, b3, b4, b5] _ (by simp) (by simp) (five_cells w b1 b2 b3 b4 b5)
set_option maxHeartbeats 4000000 in
theorem isSafe_any (s : ByteArray) (hs : s.size ≤ 1000000000) (w : World) : Calls Tryz.prog 25 #[.string s] w fun e w' => e = .returned (.bool (isSafeL s.data.toList)) ∧ Below w.heap.size w w' := by
  go_enter Tryz.func25, Tryz.ntmps25
  go_wp2_with fail
  go_region_held3 (fun W => W.cell? ⟨w.heap.size, 0, none⟩ = some (.string s) ∧ Below w.heap.size w W)
    (first
      | (exact ⟨by go_keep, ((Below.refl _ _).alloc (Nat.le_refl _) _).drew⟩)
      | (go_keep; done)
      | (go_split_ands; (refine ⟨by go_keep, ?_⟩); refine Below.alloc ?_ (Nat.le_of_lt (cell_lt (a := ⟨w.heap.size, 0, none⟩) (v := .string s) ?_)) _ <;> assumption)
      | (go_split_ands; exact ⟨(hb.cell (p := ⟨w.heap.size, 0, none⟩) (cell_lt (by assumption))).trans (by assumption), (by assumption : Below w.heap.size w _).trans (hb.mono (Nat.le_of_lt (cell_lt (by assumption))))⟩))
    (first
      | (go_at_call 38; refine (safe_contains s _).mono ?_; rintro e w' ⟨rfl, hb⟩)
      | (go_at_call 40; go_split_ands; refine (begins_any _ s _ _ ?_).mono ?_; assumption; rintro e w' ⟨rfl, rfl⟩)
      | (go_at_call 42; refine (Tryz.strings_HasSuffix s _ _ (by omega)).mono ?_; rintro e w' ⟨rfl, h1⟩; obtain rfl := h1.symm)
      | (go_at_call 41; refine (isNone_five _ _ _ _ _ _).mono ?_; rintro e w' ⟨rfl, rfl⟩))
  go_wp2
  go_ret
  go_split_ands
  refine ⟨?_, by assumption⟩
  refine ret_bool ?_
  simp [noneL, isSafeL, Bool.and_assoc]
end Go.Proofs.YtbocflglknkiaaaGreatDoor
