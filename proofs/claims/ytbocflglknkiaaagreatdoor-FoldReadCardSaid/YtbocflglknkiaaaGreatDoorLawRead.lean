/- latinerlaw15.FoldRead: true. -/
import Derived.Test.YtbocflglknkiaaaGreatDoorLawBack
namespace Go.Proofs.YtbocflglknkiaaaGreatDoor
open Go.RowKit Go.Shelf

theorem fold_item {n v s : ByteArray} (h : itemL n v = some s) (hn : n.size ≤ 400) (hv : v.size ≤ 400) :
    s.size ≤ 3000 ∧ foldV s = .tuple #[.string ⟨(foldT s.data.toList).toArray⟩, .int .i64 0] ∧ unfoldL ⟨(foldT s.data.toList).toArray⟩ = .ok [s] := by
  have hl := item_length h
  obtain ⟨h1, h2, h3, h4, h5⟩ := item_line h
  have hc : hasCrlf s.data.toList = false := by
    rw [hasCrlf, List.any_eq_false]
    intro c hc
    simp only [crlf, Bool.or_eq_true, beq_iff_eq, not_or]
    exact ⟨fun e => h3 ((UInt8.toNat_inj.1 (show c.toNat = (13 : UInt8).toNat from e)) ▸ hc), fun e => h2 ((UInt8.toNat_inj.1 (show c.toNat = (10 : UInt8).toNat from e)) ▸ hc)⟩
  refine ⟨by omega, ?_, ?_⟩
  · unfold foldV; rw [if_neg (by omega), if_neg (by simp [hc])]
  · have hf := foldT_length s.data.toList
    have h8 : s.data.toList.length = s.size := by simp
    rw [unfoldL_eq, if_neg (by rw [size_mk]; omega), lines_fold _ h2 h1 h4]
    have e : asB s.data.toList = s := bytes_ext (by simp [asB])
    simp only [e, List.filter_cons, h5, List.filter_nil]
    rfl
theorem mk_list (n : ByteArray) : (⟨n.data.toList.toArray⟩ : ByteArray) = n := bytes_ext (by simp)

set_option maxHeartbeats 3000000 in
set_option maxRecDepth 100000 in
theorem FoldRead_any (G : Nat → Addr) (a b : ByteArray) (w : World) (hE : Env G w) : Calls Tryz.prog 4 #[.string a, .string b] w fun e w' => e = .returned (.bool true) ∧ Below w.heap.size w w' := by
  have HE := Lib.hid hE
  have Hsh := Lib.hid (shown_any G w hE)
  clear hE
  go_enter Tryz.func4, Tryz.ntmps4
  go_wp2_with fail
  refine Hsh.out.mono ?_
  rintro e w1 ⟨rfl, hB1⟩
  have HE1 := Lib.hid (HE.out.below hB1)
  have HB1 := Lib.hid hB1
  clear hB1 HE Hsh
  go_wp2_with fail
  refine (short_any a w1).mono ?_
  rintro e w' ⟨rfl, rfl⟩
  go_wp2_with fail
  refine (short_any b w1).mono ?_
  rintro e w' ⟨rfl, rfl⟩
  have hn := cutB_size 400 a
  have hv := cutB_size 400 b
  generalize cutB 400 a = n at *
  generalize cutB 400 b = v at *
  cases hi : itemL n v with
  | none =>
    have Hi := Lib.hid hi
    clear hi
    go_wp2_with fail
    refine (Item_any G n v (by omega) (by omega) w1 HE1.out).mono ?_
    rintro e w2 ⟨rfl, hB2⟩
    rw [Hi.out]
    simp only [itemV]
    go_wp2
    go_ret
    exact ⟨rfl, HB1.out.trans (hB2.mono HB1.out.size)⟩
  | some s =>
    obtain ⟨hs3, hfv, hun⟩ := fold_item hi hn hv
    have hrd := read_item hi
    have Hi := Lib.hid hi
    have Hfv := Lib.hid hfv
    have Hrd := Lib.hid hrd
    obtain ⟨t, ht⟩ : ∃ t : ByteArray, t = ⟨(foldT s.data.toList).toArray⟩ := ⟨_, rfl⟩
    have hts : t.size ≤ 1000000 := by
      have h1 := foldT_length s.data.toList
      have h2 : s.data.toList.length = s.size := by simp
      rw [ht, size_mk]; omega
    rw [← ht] at Hfv hun
    have Hun := Lib.hid hun
    clear hi hfv hrd hun ht
    go_wp2_with fail
    refine (Item_any G n v (by omega) (by omega) w1 HE1.out).mono ?_
    rintro e w2 ⟨rfl, hB2⟩
    rw [Hi.out]
    simp only [itemV]
    have HE2 := Lib.hid (HE1.out.below hB2)
    have HB2 := Lib.hid (HB1.out.trans (hB2.mono HB1.out.size))
    clear hB2 HE1 HB1
    go_wp2_with fail
    refine (ReadItem_any G s (by omega) w2 HE2.out).mono ?_
    rintro e w3 ⟨rfl, hB3⟩
    rw [Hrd.out]
    simp only [RIV, mk_list]
    have HE3 := Lib.hid (HE2.out.below hB3)
    have HB3 := Lib.hid (HB2.out.trans (hB3.mono HB2.out.size))
    clear hB3 HE2 HB2
    go_wp2_with fail
    refine (Fold_any G s (by omega) w3 HE3.out).mono ?_
    rintro e w4 ⟨rfl, hB4⟩
    rw [Hfv.out]
    have HE4 := Lib.hid (HE3.out.below hB4)
    have HB4 := Lib.hid (HB3.out.trans (hB4.mono HB3.out.size))
    clear hB4 HE3 HB3
    go_wp2_with fail
    refine (Unfold_ok G t hts w4 HE4.out Hun.out).mono ?_
    rintro e w5 ⟨x, rfl, hT, hB5⟩
    have HH := Lib.hid hT.holds
    have HB5 := Lib.hid (HB4.out.trans (hB5.mono HB4.out.size))
    clear hT hB5 HE4 HB4
    go_wp2_with fail
    refine (Texts_any x _ [s] [s] _ (HH.out.below ((Below.refl _ _).alloc (Nat.le_refl _) _)) (holds_lit [s] 9 w5) (by simp) (by simp)).mono ?_
    rintro e w7 ⟨rfl, hB7⟩
    rw [show decide ([s] = [s]) = true from decide_eq_true rfl]
    have HB7 := Lib.hid (HB5.out.trans (((Below.refl _ w5).alloc (Nat.le_refl _) _).trans (hB7.mono (by simp)) |>.mono HB5.out.size))
    clear hB7
    go_wp2
    go_ret
    exact ⟨rfl, HB7.out⟩
end Go.Proofs.YtbocflglknkiaaaGreatDoor
