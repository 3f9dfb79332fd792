/- fold: first, isName, Item. -/
import Derived.Test.YtbocflglknkiaaaGreatDoorUtf
import Derived.Test.YtbocflglknkiaaaGreatDoorUnbase
namespace Go.Proofs.YtbocflglknkiaaaGreatDoor
open Go.RowKit Go.Shelf

def firstV (row : Int) (rs : List (Bool × Addr)) : Value :=
  match rs with
  | [] => .nilIface
  | r :: rs => if r.1 then .iface 54 (.agg #[.int .i64 row, .iface 159 (.pointer (some r.2))]) else firstV row rs

theorem first_any (row : Int) (b : Nat) (rs : List (Bool × Addr)) (w : World) (hl : rs.length ≤ 1000) (hb : b < w.heap.size)
    (hc : ∀ i (h : i < rs.length), w.cell? ⟨b, i * 2, none⟩ = some (.bool rs[i].1) ∧ w.cell? ⟨b, i * 2 + 1, none⟩ = some (.iface 159 (.pointer (some rs[i].2)))) :
    Calls Tryz.prog 17 #[.int .i64 row, .slice (some ⟨b, 0, none⟩) rs.length rs.length] w fun e w' => e = .returned (firstV row rs) ∧ Below w.heap.size w w' := by
  go_enter Tryz.func17, Tryz.ntmps17
  go_wp2
  go_loopw [9] (fun i wr => ∃ k : Nat, k ≤ rs.length ∧ i = .int .i64 k ∧ Hid (firstV row (rs.drop k) = firstV row rs) ∧ Below w.heap.size w wr)
    (fun i _ => rs.length - (intOf i).toNat)
  case atStart => exact ⟨0, Nat.zero_le _, rfl, Lib.hid rfl, Below.refl _ _⟩
  case round =>
    obtain ⟨k, hk, rfl, hf, hB⟩ := hrel
    by_cases hlt : k < rs.length
    · obtain ⟨hc1, hc2⟩ := hc k hlt
      rw [← hB.cell (p := ⟨b, k * 2, none⟩) hb] at hc1
      rw [← hB.cell (p := ⟨b, k * 2 + 1, none⟩) hb] at hc2
      clear hc
      obtain ⟨r, hr⟩ : ∃ r, rs[k] = r := ⟨_, rfl⟩
      rw [hr] at hc1 hc2
      have hd : rs.drop k = r :: rs.drop (k + 1) := by rw [List.drop_eq_getElem_cons hlt, hr]
      have hfo := hf.out
      rw [hd, firstV] at hfo
      have H := Lib.hid hfo
      clear hf hfo hd hr
      obtain ⟨q, ra⟩ := r
      cases q
      · go_wp2
        go_roundw
        case rel => exact ⟨k + 1, by omega, by go_num, H, (hB.alloc (by have := hB.size; omega) _)⟩
        case measure => simp [intOf]; omega
      · go_wp2
        go_ret
        exact ⟨by rw [← H.out]; rfl, (hB.alloc (by have := hB.size; omega) _)⟩
    · have hfo := hf.out
      rw [List.drop_of_length_le (by omega)] at hfo
      have H := Lib.hid hfo
      clear hf hfo hc
      go_wp2
      go_ret
      exact ⟨by rw [← H.out]; rfl, hB⟩

def barredP (x : Nat) : Bool := decide (x < 33) || decide (126 < x) || x == 58
theorem isBarred_any (x : Nat) (hx : x ≤ 1114111) (w : World) : Calls Tryz.prog 37 #[encR x] w fun e w' => e = .returned (.bool (barredP x)) ∧ w = w' := by
  by_cases h0 : x < 33
  · have e0 : decide ((x : Int) < 33) = true := by simp; omega
    have Hv := Lib.hid (show barredP x = true by simp [barredP, h0])
    go_enter Tryz.func37, Tryz.ntmps37
    go_wp2
    go_ret
    refine ⟨?_, rfl⟩
    rw [Hv.out]; rfl
  · have e0 : decide ((x : Int) < 33) = false := by simp; omega
    by_cases h1 : 126 < x
    · have e1 : decide ((126 : Int) < (x : Int)) = true := by simp; omega
      have Hv := Lib.hid (show barredP x = true by simp [barredP, h1])
      go_enter Tryz.func37, Tryz.ntmps37
      go_wp2
      go_ret
      refine ⟨?_, rfl⟩
      rw [Hv.out]; rfl
    · have e1 : decide ((126 : Int) < (x : Int)) = false := by simp; omega
      have Hv := Lib.hid (show barredP x = ((x : Int) == 58) by
        have h2 : ((x : Int) == 58) = (x == 58) := by rw [Bool.eq_iff_iff]; simp; omega
        simp [barredP, h0, h1, h2])
      go_enter Tryz.func37, Tryz.ntmps37
      go_wp2
      go_ret
      refine ⟨?_, rfl⟩
      rw [Hv.out]; rfl
def hasBarred (l : List UInt8) : Bool := l.any fun b => barredP b.toNat
theorem name_contains (s : ByteArray) (w : World) : Calls Tryz.prog 38 #[.string s, .func (.func 37) #[] #[]] w fun e w' => e = .returned (.bool (hasBarred s.data.toList)) ∧ Below w.heap.size w w' := by
  have := Tryz.strings_ContainsFunc_grows 37 #[] (enters_of Tryz.func37 (by kernel_rfl) rfl) barredP s w (fun W x hx _ => (isBarred_any x hx W).mono fun e w' ⟨h1, h2⟩ => ⟨h1, by subst h2; exact Below.refl _ _⟩)
  rw [idxFunc_bytes barredP (fun r hr => by simp [barredP]; omega)] at this
  exact this
/-- May a text be an item's name? -/
def isNameL : List UInt8 → Bool
  | [] => false
  | c :: r => c != 35 && !hasBarred (c :: r)

theorem isName_any (s : ByteArray) (w : World) : Calls Tryz.prog 24 #[.string s] w fun e w' => e = .returned (.bool (isNameL s.data.toList)) ∧ Below w.heap.size w w' := by
  cases hl : s.data.toList with
  | nil =>
    have hs : s.toList = [] := by rw [ByteArray.toList_eq, hl]
    go_enter Tryz.func24, Tryz.ntmps24
    go_wp2
    go_ret
    exact ⟨rfl, Below.refl _ _⟩
  | cons c r =>
    have hsz : 0 < s.size := by
      have : s.data.toList.length = s.size := by simp
      rw [hl] at this; simp at this; omega
    have hne : s.toList.isEmpty = false := by rw [ByteArray.toList_eq, hl]; rfl
    have hc : s[0] = c := by
      have : s.data.toList[0]? = some c := by rw [hl]; rfl
      have h2 : s.data.toList[0]? = some s[0] := by simp [hsz]; rfl
      rw [h2] at this
      exact Option.some.inj this
    have Hl := Lib.hid hl
    clear hl
    by_cases h35 : c = 35
    · have e1 : ((s[0].toNat : Int) != 35) = false := by rw [hc, h35]; rfl
      have Hc := Lib.hid h35
      clear hc h35
      go_enter Tryz.func24, Tryz.ntmps24
      go_wp2
      go_ret
      refine ⟨?_, Below.refl _ _⟩
      rw [Hc.out]; rfl
    · have e1 : ((s[0].toNat : Int) != 35) = true := by
        rw [hc, bne_iff_ne]
        intro h
        exact h35 (UInt8.toNat_inj.1 (by simpa using (show c.toNat = 35 by omega)))
      have Hc := Lib.hid h35
      clear hc h35
      go_enter Tryz.func24, Tryz.ntmps24
      go_wp2_with fail
      refine (name_contains s _).mono ?_
      rintro e w1 ⟨rfl, hB1⟩
      go_wp2
      go_ret
      refine ⟨?_, hB1⟩
      refine ret_bool ?_
      rw [isNameL, Hl.out]
      have : (c != 35) = true := by rw [bne_iff_ne]; exact Hc.out
      rw [this, Bool.true_and]
end Go.Proofs.YtbocflglknkiaaaGreatDoor
