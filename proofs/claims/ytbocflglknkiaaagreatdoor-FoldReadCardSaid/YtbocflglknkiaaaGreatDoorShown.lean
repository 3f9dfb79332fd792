/- latinerlaw15.shown: true. -/
import Derived.Test.YtbocflglknkiaaaGreatDoorFold
namespace Go.Proofs.YtbocflglknkiaaaGreatDoor
open Go.RowKit Go.Shelf

def UnOk (l : List ByteArray) (w : World) (e : Ending) (w' : World) : Prop := ∃ v, e = .returned (.tuple #[v, .int .i64 0]) ∧ Texts w.heap.size v l w' ∧ Below w.heap.size w w'
theorem Unfold_ok (G : Nat → Addr) (s : ByteArray) (hs : s.size ≤ 1000000) (w : World) (hE : Env G w) {l : List ByteArray} (h : unfoldL s = .ok l) :
    Calls Tryz.prog 11 #[.string s] w (UnOk l w) := by
  refine (Unfold_any G s hs w hE).mono ?_
  rintro e w' ⟨hB, hp⟩
  rw [h] at hp
  obtain ⟨v, rfl, hT⟩ := hp
  exact ⟨v, rfl, hT, hB⟩
theorem Unfold_bad (G : Nat → Addr) (s : ByteArray) (hs : s.size ≤ 1000000) (w : World) (hE : Env G w) {g : Nat} (h : unfoldL s = .bad g) :
    Calls Tryz.prog 11 #[.string s] w fun e w' => e = .returned (.tuple #[.slice none 0 0, .int .i64 (errnoF g)]) ∧ Below w.heap.size w w' := by
  refine (Unfold_any G s hs w hE).mono ?_
  rintro e w' ⟨hB, hp⟩
  rw [h] at hp
  exact ⟨hp, hB⟩
theorem holds_lit (l : List ByteArray) (t : TypeId) (w : World) : Holds (.slice (some ⟨w.heap.size, 0, none⟩) l.length l.length) l (w.alloc (.cells (l.map Value.string).toArray t)) := by
  refine ⟨_, _, rfl, fun k hk => ⟨_, rfl, by simp, ?_⟩⟩
  rw [Lib.cell_of_heap (heap_alloc_new _ _)]
  simp [hk]
theorem holds_nil (w : World) : Holds (.slice none 0 0) [] w := ⟨none, 0, rfl, fun k hk => absurd hk (by simp)⟩

set_option maxHeartbeats 2000000 in
set_option maxRecDepth 100000 in
theorem shown_any (G : Nat → Addr) (w : World) (hE : Env G w) : Calls Tryz.prog 9 #[] w fun e w' => e = .returned (.bool true) ∧ Below w.heap.size w w' := by
  have hu1 : unfoldL ⟨#[97, 13, 10, 32, 98, 10, 35, 32, 99, 10, 32, 100, 10, 10, 101]⟩ = .ok [⟨#[97, 98]⟩, ⟨#[]⟩, ⟨#[101]⟩] := by kernel_rfl
  have hu2 : unfoldL ⟨#[97, 10, 10, 32, 98]⟩ = .bad 1 := by kernel_rfl
  have hi : itemL ⟨#[99, 110]⟩ ⟨#[32, 97]⟩ = some ⟨#[99, 110, 58, 58, 32, 73, 71, 69, 61]⟩ := by kernel_rfl
  have hr1 : readL [99, 110, 58, 58, 32, 32, 73, 71, 69, 61] = .ok [99, 110] [32, 97] := by kernel_rfl
  have hr2 : readL [99, 110, 58, 60, 32, 102, 105, 108, 101] = .bad 3 := by kernel_rfl
  have hf : foldV ⟨#[]⟩ = .tuple #[.string ⟨#[10]⟩, .int .i64 0] := by kernel_rfl
  have H1 := Lib.hid hu1
  have H2 := Lib.hid hu2
  have H3 := Lib.hid hi
  have H4 := Lib.hid hr1
  have H5 := Lib.hid hr2
  have H6 := Lib.hid hf
  clear hu1 hu2 hi hr1 hr2 hf
  go_enter Tryz.func9, Tryz.ntmps9
  go_wp2_with fail
  refine (Unfold_ok G _ (by decide) _ hE H1.out).mono ?_
  rintro e w1 ⟨v, rfl, hT, hB1⟩
  have HT1 := Lib.hid hT
  have HE1 := Lib.hid (hE.below hB1)
  have HB1 := Lib.hid hB1
  clear hT hB1 hE
  go_wp2_with fail
  refine (Unfold_bad G _ (by decide) _ HE1.out H2.out).mono ?_
  rintro e w2 ⟨rfl, hB2⟩
  have HT2 := Lib.hid (HT1.out.below hB2 (Nat.le_refl _))
  have HE2 := Lib.hid (HE1.out.below hB2)
  have HB2 := Lib.hid (HB1.out.trans (hB2.mono HB1.out.size))
  clear hB2 HE1 HB1 HT1
  go_wp2_with fail
  refine (Item_any G _ _ (by decide) (by decide) _ HE2.out).mono ?_
  rintro e w3 ⟨rfl, hB3⟩
  rw [H3.out]
  have HT3 := Lib.hid (HT2.out.below hB3 (Nat.le_refl _))
  have HE3 := Lib.hid (HE2.out.below hB3)
  have HB3 := Lib.hid (HB2.out.trans (hB3.mono HB2.out.size))
  clear hB3 HE2 HB2 HT2
  simp only [itemV]
  go_wp2_with fail
  refine (ReadItem_any G _ (by decide) _ HE3.out).mono ?_
  rintro e w4 ⟨rfl, hB4⟩
  simp only [H4.out, RIV]
  have HT4 := Lib.hid (HT3.out.below hB4 (Nat.le_refl _))
  have HE4 := Lib.hid (HE3.out.below hB4)
  have HB4 := Lib.hid (HB3.out.trans (hB4.mono HB3.out.size))
  clear hB4 HE3 HB3 HT3
  go_wp2_with fail
  refine (ReadItem_any G _ (by decide) _ HE4.out).mono ?_
  rintro e w5 ⟨rfl, hB5⟩
  simp only [H5.out, RIV]
  have HT5 := Lib.hid (HT4.out.below hB5 (Nat.le_refl _))
  have HE5 := Lib.hid (HE4.out.below hB5)
  have HB5 := Lib.hid (HB4.out.trans (hB5.mono HB4.out.size))
  clear hB5 HE4 HB4 HT4
  go_wp2_with fail
  refine (Fold_any G _ (by decide) _ HE5.out).mono ?_
  rintro e w6 ⟨rfl, hB6⟩
  simp only [H6.out]
  have HT6 := Lib.hid (HT5.out.below hB6 (Nat.le_refl _))
  have HB6 := Lib.hid (HB5.out.trans (hB6.mono HB5.out.size))
  clear hB6 HE5 HB5 HT5
  go_wp2_with fail
  refine (Texts_any v _ [⟨#[97, 98]⟩, ⟨#[]⟩, ⟨#[101]⟩] [⟨#[97, 98]⟩, ⟨#[]⟩, ⟨#[101]⟩] _ (HT6.out.holds.below ((Below.refl _ _).alloc (Nat.le_refl _) _)) (holds_lit [⟨#[97, 98]⟩, ⟨#[]⟩, ⟨#[101]⟩] 9 w6) (by decide) (by decide)).mono ?_
  rintro e w7 ⟨rfl, hB7⟩
  rw [show decide ([⟨#[97, 98]⟩, ⟨#[]⟩, ⟨#[101]⟩] = ([⟨#[97, 98]⟩, ⟨#[]⟩, ⟨#[101]⟩] : List ByteArray)) = true from decide_eq_true rfl]
  have HB7 := Lib.hid (HB6.out.trans (((Below.refl _ w6).alloc (Nat.le_refl _) _).trans (hB7.mono (by simp)) |>.mono HB6.out.size))
  clear hB7 HB6 HT6
  go_wp2
  go_ret
  exact ⟨rfl, HB7.out⟩
end Go.Proofs.YtbocflglknkiaaaGreatDoor
