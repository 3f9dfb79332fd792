/- fold.Unfold; latinerref08.Texts; latinerlaw15.short. -/
import Derived.Test.YtbocflglknkiaaaGreatDoorUnfold
namespace Go.Proofs.YtbocflglknkiaaaGreatDoor
open Go.RowKit Go.Shelf

def errnoF (g : Nat) : Int := if g = 0 then 131 else if g = 1 then 150 else if g = 3 then 152 else 151
theorem unfoldL_cases (s : ByteArray) : unfoldL s = .bad 0 ∨ unfoldL s = .bad 1 ∨ ∃ l, unfoldL s = .ok l := by
  unfold unfoldL
  split
  · exact .inl rfl
  · split
    · exact .inr (.inl rfl)
    · exact .inr (.inr ⟨_, rfl⟩)
def UnPost (s : ByteArray) (w : World) (e : Ending) (w' : World) : Prop :=
  Below w.heap.size w w' ∧ match unfoldL s with
    | .ok l => ∃ v, e = .returned (.tuple #[v, .int .i64 0]) ∧ Texts w.heap.size v l w'
    | .bad g => e = .returned (.tuple #[.slice none 0 0, .int .i64 (errnoF g)])
theorem Texts.below {n m : Nat} {v : Value} {l : List ByteArray} {w w' : World} (h : Texts n v l w) (hb : Below m w w') (hm : w.heap.size ≤ m) : Texts n v l w' :=
  World.ownsRow.kept (row := none) h ⟨hb.os, hb.tape, hb.output, hb.size, fun k hk _ => hb.block k (by omega)⟩ (by cases v.ownBlock <;> simp)

theorem Unfold_any (G : Nat → Addr) (s : ByteArray) (hs : s.size ≤ 1000000) (w : World) (hE : Env G w) :
    Calls Tryz.prog 11 #[.string s] w (UnPost s w) := by
  have HE := Lib.hid hE
  clear hE
  go_enter Tryz.func11, Tryz.ntmps11
  go_wp2_with fail
  refine (unfold_any G s hs w HE.out).mono ?_
  rintro e w1 ⟨hB1, hp⟩
  have hE1 := HE.out.below hB1
  rcases unfoldL_cases s with hu | hu | ⟨l, hu⟩
  · rw [hu] at hp
    obtain ⟨i, rfl⟩ := hp
    have Hu := Lib.hid hu
    have HB1 := Lib.hid hB1
    have Ht := Lib.hid (fold_told_errLarge G i w1 hE1)
    clear hu hE1 hB1
    simp only [wrongV]
    go_wp2_with fail
    refine Ht.out.mono ?_
    rintro e w2 ⟨rfl, hB2⟩
    go_wp2
    go_ret2
    refine ⟨HB1.out.trans (hB2.mono HB1.out.size), ?_⟩
    rw [Hu.out]
    rfl
  · rw [hu] at hp
    obtain ⟨i, rfl⟩ := hp
    have Hu := Lib.hid hu
    have HB1 := Lib.hid hB1
    have Ht := Lib.hid (fold_told_errFold G i w1 hE1)
    clear hu hE1 hB1
    simp only [wrongV]
    go_wp2_with fail
    refine Ht.out.mono ?_
    rintro e w2 ⟨rfl, hB2⟩
    go_wp2
    go_ret2
    refine ⟨HB1.out.trans (hB2.mono HB1.out.size), ?_⟩
    rw [Hu.out]
    rfl
  · rw [hu] at hp
    obtain ⟨v, rfl, hT⟩ := hp
    have Hu := Lib.hid hu
    have HT := Lib.hid hT
    have HB1 := Lib.hid hB1
    clear hu hE1 hB1 hT
    go_wp2_with fail
    refine (fold_told_nil _).mono ?_
    rintro e w2 ⟨rfl, hB2⟩
    go_wp2
    go_ret2
    refine ⟨HB1.out.trans (hB2.mono HB1.out.size), ?_⟩
    rw [Hu.out]
    exact ⟨v, rfl, HT.out.below hB2 (Nat.le_refl _)⟩

def cutB (n : Nat) (s : ByteArray) : ByteArray := s.extract 0 (min s.size n)
theorem cutB_of_le {n : Nat} {s : ByteArray} (h : s.size ≤ n) : cutB n s = s := by
  unfold cutB
  rw [Nat.min_eq_left h]
  exact ByteArray.extract_zero_size
theorem cutB_of_lt {n : Nat} {s : ByteArray} (h : n < s.size) : cutB n s = s.extract 0 n := by
  unfold cutB
  rw [Nat.min_eq_right (Nat.le_of_lt h)]
theorem cutB_size (n : Nat) (s : ByteArray) : (cutB n s).size ≤ n := by
  unfold cutB
  rw [ByteArray.size_extract]
  omega
theorem short_any (s : ByteArray) (w : World) : Calls Tryz.prog 13 #[.string s] w fun e w' => e = .returned (.string (cutB 400 s)) ∧ w = w' := by
  by_cases h : s.size ≤ 400
  · have h1 : min (s.size : Int) 400 = (s.size : Int) := by omega
    have Hc := Lib.hid (cutB_of_le h)
    go_enter Tryz.func13, Tryz.ntmps13
    go_wp2
    go_ret
    exact ⟨by rw [Hc.out]; rfl, rfl⟩
  · have h1 : min (s.size : Int) 400 = 400 := by omega
    have h2 : (400 : Int) ≤ (s.size : Int) := by omega
    have Hc := Lib.hid (cutB_of_lt (show 400 < s.size by omega))
    go_enter Tryz.func13, Tryz.ntmps13
    go_wp2
    go_ret
    exact ⟨by rw [Hc.out]; rfl, rfl⟩

/-- A slice whose cells hold some texts. -/
def Holds (v : Value) (l : List ByteArray) (w : World) : Prop :=
  ∃ a cap, v = .slice a l.length cap ∧ ∀ k, k < l.length → ∃ g, a = some ⟨g, 0, none⟩ ∧ g < w.heap.size ∧ w.cell? ⟨g, k, none⟩ = some (.string (l.getD k ⟨#[]⟩))
theorem Texts.holds {n : Nat} {v : Value} {ls : List ByteArray} {w : World} (h : Texts n v ls w) : Holds v ls w := by
  rcases h.2 with ⟨rfl, h0⟩ | ⟨g, cap, cur, rfl, _, hg, _, _, _, htk⟩
  · exact ⟨none, 0, by rw [h0], fun k hk => by omega⟩
  · refine ⟨some ⟨g, 0, none⟩, cap, rfl, fun k hk => ⟨g, rfl, (Array.getElem?_eq_some_iff.1 hg).1, ?_⟩⟩
    rw [Lib.cell_of_heap hg]
    have h8 : (cur.toList.take (ls.length * 1))[k]? = some (.string (ls.getD k ⟨#[]⟩)) := by rw [htk]; simp [hk]
    rw [List.getElem?_take] at h8
    simpa [hk] using h8
theorem Holds.below {v : Value} {l : List ByteArray} {w w' : World} (h : Holds v l w) (hb : Below w.heap.size w w') : Holds v l w' := by
  obtain ⟨a, cap, rfl, h⟩ := h
  refine ⟨a, cap, rfl, fun k hk => ?_⟩
  obtain ⟨g, h1, h2, h3⟩ := h k hk
  exact ⟨g, h1, Nat.lt_of_lt_of_le h2 hb.size, (hb.cell (p := ⟨g, k, none⟩) h2).trans h3⟩

theorem Texts_any (v u : Value) (a b : List ByteArray) (w : World) (ha : Holds v a w) (hb : Holds u b w) (hal : a.length ≤ 1000000) (hbl : b.length ≤ 1000000) :
    Calls Tryz.prog 12 #[v, u] w fun e w' => e = .returned (.bool (decide (a = b))) ∧ Below w.heap.size w w' := by
  obtain ⟨aa, ac, rfl, ha⟩ := ha
  obtain ⟨ba, bc, rfl, hb⟩ := hb
  have Ha := Lib.hid ha
  have Hb := Lib.hid hb
  clear ha hb
  by_cases hl : a.length = b.length
  · have e0 : (((a.length : Int)) != (b.length : Int)) = false := by rw [hl]; simp
    have Hal := Lib.hid hl
    clear hl
    go_enter Tryz.func12, Tryz.ntmps12
    go_wp2
    go_loopw [5] (fun i wr => ∃ k : Nat, k ≤ a.length ∧ i = .int .i64 k ∧ Hid (∀ j, j < k → a.getD j ⟨#[]⟩ = b.getD j ⟨#[]⟩) ∧ Below w.heap.size w wr)
      (fun i _ => a.length - (intOf i).toNat)
    case atStart => exact ⟨0, Nat.zero_le _, rfl, Lib.hid (fun j hj => by omega), Below.refl _ _⟩
    case round =>
      obtain ⟨k, hk, rfl, hH, hB⟩ := hrel
      have HB := Lib.hid hB
      by_cases hlt : k < a.length
      · obtain ⟨g, rfl, hg, hx⟩ := Ha.out k hlt
        obtain ⟨g', rfl, hg', hx'⟩ := Hb.out k (by rw [← Hal.out]; exact hlt)
        have hc1 := (hB.cell (p := ⟨g, k, none⟩) hg).trans hx
        have hc2 := (hB.cell (p := ⟨g', k, none⟩) hg').trans hx'
        have hkb : k < b.length := by rw [← Hal.out]; exact hlt
        obtain ⟨x, hxe⟩ : ∃ x, x = a.getD k ⟨#[]⟩ := ⟨_, rfl⟩
        obtain ⟨y, hye⟩ : ∃ y, y = b.getD k ⟨#[]⟩ := ⟨_, rfl⟩
        rw [← hxe] at hc1
        rw [← hye] at hc2
        clear hx hx' hB
        by_cases hxy : x = y
        · have HS := Lib.hid (show ∀ j, j < k + 1 → a.getD j ⟨#[]⟩ = b.getD j ⟨#[]⟩ from fun j hj => by
            rcases Nat.lt_or_ge j k with h | h
            · exact hH.out j h
            · obtain rfl : j = k := by omega
              rw [← hxe, ← hye, hxy])
          subst hxy
          clear hxe hye hH
          go_wp2
          go_region
          go_wp2
          go_roundw
          case rel => exact ⟨k + 1, by omega, by go_num, HS, bdrew HB.out _⟩
          case measure => simp [intOf]; omega
        · have e1 : (x.toList == y.toList) = false := by
            rw [beq_eq_false_iff_ne]
            exact fun h => hxy (toList_inj h)
          have Hne : Hid (decide (a = b) = false) := Lib.hid (by
            rw [decide_eq_false_iff_not]
            rintro rfl
            exact hxy (hxe.trans hye.symm))
          clear hxy hxe hye hH
          go_wp2
          go_region
          go_wp2
          go_ret
          exact ⟨by rw [Hne.out]; rfl, bdrew HB.out _⟩
      · obtain rfl : k = a.length := by omega
        have Heq : Hid (decide (a = b) = true) := Lib.hid (by
          rw [decide_eq_true_eq]
          refine List.ext_getElem Hal.out fun i h1 h2 => ?_
          have := hH.out i h1
          rw [List.getD_eq_getElem?_getD, List.getD_eq_getElem?_getD, List.getElem?_eq_getElem h1, List.getElem?_eq_getElem h2] at this
          exact this)
        clear hH Ha Hb hB
        go_wp2
        go_ret
        exact ⟨by rw [Heq.out]; rfl, HB.out⟩
  · have e0 : (((a.length : Int)) != (b.length : Int)) = true := by rw [bne_iff_ne]; omega
    have hne : Hid (decide (a = b) = false) := Lib.hid (by
      rw [decide_eq_false_iff_not]
      intro h
      exact hl (by rw [h]))
    go_enter Tryz.func12, Tryz.ntmps12
    go_wp2
    go_ret
    exact ⟨by rw [hne.out]; rfl, Below.refl _ _⟩
end Go.Proofs.YtbocflglknkiaaaGreatDoor
