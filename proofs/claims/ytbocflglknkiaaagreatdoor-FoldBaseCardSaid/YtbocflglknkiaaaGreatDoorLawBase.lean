/- latinerlaw15.FoldBase: true. -/
import Derived.Test.YtbocflglknkiaaaGreatDoorLawRead
import Derived.Deep.RegionHeld3
namespace Go.Proofs.YtbocflglknkiaaaGreatDoor
open Go.RowKit Go.Shelf

def nineB : ByteArray := ⟨#[32, 32, 32, 32, 32, 32, 32, 32, 32]⟩
theorem nine_cut (k : Nat) (h : k ≤ 9) : (nineB.extract 0 k).data.toList = List.replicate k 32 := by
  have : ∀ k : Fin 10, (nineB.extract 0 k.val).data.toList = List.replicate k.val 32 := by decide +kernel
  exact this ⟨k, by omega⟩

set_option maxHeartbeats 1000000 in
set_option maxRecDepth 100000 in
theorem FoldBase_any (G : Nat → Addr) (a b : ByteArray) (m : Int) (w : World) (hE : Env G w) : Calls Tryz.prog 8 #[.string a, .string b, .int .i64 m] w fun e w' => e = .returned (.bool true) ∧ Below w.heap.size w w' := by
  obtain ⟨k, hk⟩ : ∃ k : Nat, min (max m 0) 9 = (k : Int) := ⟨(min (max m 0) 9).toNat, by omega⟩
  have hk9 : k ≤ 9 := by omega
  have HE := Lib.hid hE
  have Hsh := Lib.hid (shown_any G w hE)
  have Hk := Lib.hid hk
  clear hE hk
  go_enter Tryz.func8, Tryz.ntmps8
  go_wp2_with fail
  refine Hsh.out.mono ?_
  rintro e w1 ⟨rfl, hB1⟩
  have HE1 := Lib.hid (HE.out.below hB1)
  have HB1 := Lib.hid hB1
  clear hB1 HE Hsh
  go_wp2_with fail
  refine (short_any a w1).mono ?_
  rintro e w' ⟨rfl, rfl⟩
  go_wp2_with fail
  refine (short_any b w1).mono ?_
  rintro e w' ⟨rfl, rfl⟩
  have hn := cutB_size 400 a
  have hv := cutB_size 400 b
  generalize cutB 400 a = n at *
  generalize cutB 400 b = v at *
  obtain ⟨z, hz⟩ : ∃ z : ByteArray, nineB.extract 0 k = z := ⟨_, rfl⟩
  have hz9 : z.size ≤ 9 := by rw [← hz, ByteArray.size_extract]; omega
  have Hz := Lib.hid hz
  have c1 : (9223372036854775807 < n.size + 2) = False := by rw [eq_iff_iff]; exact ⟨fun h => by omega, False.elim⟩
  have c2 : (9223372036854775807 < n.size + 2 + z.size) = False := by rw [eq_iff_iff]; exact ⟨fun h => by omega, False.elim⟩
  have c3 : (9223372036854775807 < n.size + 2 + z.size + (baseB v).size) = False := by
    have h4 := baseB_le v
    rw [eq_iff_iff]; exact ⟨fun h => by omega, False.elim⟩
  have C1 := Lib.hid c1
  have C2 := Lib.hid c2
  have C3 := Lib.hid c3
  clear c1 c2 c3
  obtain ⟨x, hx⟩ : ∃ x : ByteArray, x = n ++ ⟨#[58, 58]⟩ ++ (nineB.extract 0 k) ++ baseB v := ⟨_, rfl⟩
  have hxl : x.data.toList = n.data.toList ++ [58, 58] ++ (List.replicate k 32 ++ (baseB v).data.toList) := by
    rw [hx, ← nine_cut k hk9]; simp
  have hxs : x.size ≤ 100000 := by
    have h1 : x.data.toList.length = x.size := by simp
    have h2 : (baseB v).data.toList.length = (baseB v).size := by simp
    have h3 : n.data.toList.length = n.size := by simp
    have h4 := baseB_le v
    rw [hxl, List.length_append, List.length_append, List.length_append, h2, h3] at h1
    simp at h1; omega
  have hnm := item_name n ⟨#[120]⟩
  rw [hz] at hx
  have Hx := Lib.hid hx
  clear hx hz
  cases hi : itemL n ⟨#[120]⟩ with
  | none =>
    cases hrd : readL x.data.toList with
    | ok n1 v1 =>
      obtain ⟨q, hq⟩ : ∃ q, RIV (readL x.data.toList) = q := ⟨_, rfl⟩
      have Hq := Lib.hid hq
      have hq2 : q = .tuple #[.string ⟨n1.toArray⟩, .string ⟨v1.toArray⟩, .int .i64 0] := by rw [← hq, hrd]; rfl
      subst hq2
      clear hq hrd
      have Hi := Lib.hid hi
      clear hi
      go_wp2_with fail
      refine (Item_any G n ⟨#[120]⟩ (by omega) (by decide) w1 HE1.out).mono ?_
      rintro e w2 ⟨rfl, hB2⟩
      rw [Hi.out]
      simp only [itemV]
      have HE2 := Lib.hid (HE1.out.below hB2)
      have HB2 := Lib.hid (HB1.out.trans (hB2.mono HB1.out.size))
      clear hB2 HE1 HB1
      have Hrx : ∀ W, Below w2.heap.size w2 W → Calls Tryz.prog 15 #[.string (n ++ ⟨#[58, 58]⟩ ++ z ++ baseB v)] W fun e w' => e = .returned (.tuple #[.string ⟨n1.toArray⟩, .string ⟨v1.toArray⟩, .int .i64 0]) ∧ Below W.heap.size W w' := fun W h => by
        rw [show n ++ ⟨#[58, 58]⟩ ++ z ++ baseB v = x from Hx.out.symm, ← Hq.out]
        exact ReadItem_any G x (by omega) W (HE2.out.below h)
      have hk := Hk.out
      have hz : (⟨#[32, 32, 32, 32, 32, 32, 32, 32, 32]⟩ : ByteArray).extract 0 k = z := Hz.out
      have c1 := C1.out
      have c2 := C2.out
      have c3 := C3.out
      have hki : (k : Int) ≤ 9 := by omega
      go_wp2_with fail
      refine wp_region_held_drew (S := fun W => Below w2.heap.size w2 W) (by kernel_rfl) ((Below.refl _ _).drew) (fun hHeld => ?_)
      refine wpAnyH_take (i := 0) (oi := ?_) (v := ?_) ?_ ?_ ?_ ?_ ?_ ?_ ?_ ?_; rotate_left 2; rfl; kernel_rfl; kernel_rfl; kernel_rfl; exact (fun _ _ _ h => h)
      · (refine Or.inl ⟨by rfl, ?_⟩; intro w hSw; (try dsimp only at hSw); go_simp; try (with_reducible rfl))
      · assumption
      try simp only [Act.put, List.setIfInBounds_toArray]
      refine wpAnyH_take (i := 1) (oi := ?_) (v := ?_) ?_ ?_ ?_ ?_ ?_ ?_ ?_ ?_; rotate_left 2; rfl; kernel_rfl; kernel_rfl; kernel_rfl; exact (fun _ _ _ h => h)
      · (refine Or.inl ⟨by rfl, ?_⟩; intro w hSw; (try dsimp only at hSw); go_simp; try (with_reducible rfl))
      · assumption
      try simp only [Act.put]
      refine wpAnyH_take (i := 2) (oi := ?_) (v := ?_) ?_ ?_ ?_ ?_ ?_ ?_ ?_ ?_; rotate_left 2; rfl; kernel_rfl; kernel_rfl; kernel_rfl; exact (fun _ _ _ h => h)
      · (refine Or.inl ⟨by rfl, ?_⟩; intro w hSw; (try dsimp only at hSw); go_simp; try (with_reducible rfl))
      · assumption
      try simp only [Act.put]
      refine wpAnyH_take (i := 3) (oi := ?_) (v := ?_) ?_ ?_ ?_ ?_ ?_ ?_ ?_ ?_; rotate_left 2; rfl; kernel_rfl; kernel_rfl; kernel_rfl; exact (fun _ _ _ h => h)
      · (refine Or.inl ⟨by rfl, ?_⟩; intro w hSw; (try dsimp only at hSw); go_simp; try (with_reducible rfl))
      · assumption
      try simp only [Act.put]
      refine wpAnyH_take (i := 4) (oi := ?_) (v := ?_) ?_ ?_ ?_ ?_ ?_ ?_ ?_ ?_; rotate_left 2; rfl; kernel_rfl; kernel_rfl; kernel_rfl; exact (fun _ _ _ h => h)
      · (refine Or.inl ⟨by rfl, ?_⟩; intro w hSw; (try dsimp only at hSw); go_simp; try (with_reducible rfl))
      · assumption
      try simp only [Act.put]
      refine wpAnyH_take (i := 5) (oi := ?_) (v := ?_) ?_ ?_ ?_ ?_ ?_ ?_ ?_ ?_; rotate_left 2; rfl; kernel_rfl; kernel_rfl; kernel_rfl; exact (fun _ _ _ h => h)
      · (refine Or.inl ⟨by rfl, ?_⟩; intro w hSw; (try dsimp only at hSw); go_simp; try (with_reducible rfl))
      · assumption
      try simp only [Act.put]
      refine wpAnyH_take (i := 6) (oi := ?_) (v := ?_) ?_ ?_ ?_ ?_ ?_ ?_ ?_ ?_; rotate_left 2; rfl; kernel_rfl; kernel_rfl; kernel_rfl; exact (fun _ _ _ h => h)
      · (refine Or.inl ⟨by rfl, ?_⟩; intro w hSw; (try dsimp only at hSw); go_simp; try (with_reducible rfl))
      · assumption
      try simp only [Act.put]
      refine wpAnyH_take (i := 7) (oi := ?_) (v := ?_) ?_ ?_ ?_ ?_ ?_ ?_ ?_ ?_; rotate_left 2; rfl; kernel_rfl; kernel_rfl; kernel_rfl; exact (fun _ _ _ h => h)
      · (refine Or.inl ⟨by rfl, ?_⟩; intro w hSw; (try dsimp only at hSw); go_simp; try (with_reducible rfl))
      · assumption
      try simp only [Act.put]
      refine wpAnyH_ready (rs := [8]) (by kernel_rfl) (by simp) ?_
      refine AllReadyH.cons (o := ?_) ?_ ?_ AllReadyH.nil; rotate_left 1; rfl
      intro K hK
      go_simp
      refine (base_any v (by omega) _).mono ?_
      rintro e w3 ⟨rfl, hb⟩
      try (go_wp2_with fail)
      refine hK.out _ _ (held0_below hHeld (Nat.le_refl _) hb) (fun hHeld => ?_)
      clear hK K
      try simp only [Act.put, List.setIfInBounds_toArray, List.set_cons_zero, List.set_cons_succ]
      refine wpAnyH_take (i := 9) (oi := ?_) (v := ?_) ?_ ?_ ?_ ?_ ?_ ?_ ?_ ?_; rotate_left 2; rfl; kernel_rfl; kernel_rfl; kernel_rfl; exact (fun _ _ _ h => h)
      · (refine Or.inl ⟨by rfl, ?_⟩; intro w hSw; (try dsimp only at hSw); go_simp; try (with_reducible rfl))
      · assumption
      try simp only [Act.put, List.setIfInBounds_toArray]
      refine wpAnyH_ready (rs := [10]) (by kernel_rfl) (by simp) ?_
      refine AllReadyH.cons (o := ?_) ?_ ?_ AllReadyH.nil; rotate_left 1; rfl
      intro K hK
      go_simp
      refine (Hrx _ hHeld).mono ?_
      rintro e w4 ⟨rfl, hb4⟩
      try (go_wp2_with fail)
      refine hK.out _ _ (held0_below hHeld (Nat.le_refl _) hb4) (fun hHeld => ?_)
      clear hK K
      try simp only [Act.put, List.setIfInBounds_toArray, List.set_cons_zero, List.set_cons_succ]
      refine wpAnyH_take (i := 11) (oi := ?_) (v := ?_) ?_ ?_ ?_ ?_ ?_ ?_ ?_ ?_; rotate_left 2; rfl; kernel_rfl; kernel_rfl; kernel_rfl; exact (fun _ _ _ h => h)
      · (refine Or.inl ⟨by rfl, ?_⟩; intro w hSw; (try dsimp only at hSw); go_simp; try (with_reducible rfl))
      · assumption
      try simp only [Act.put, List.setIfInBounds_toArray]
      refine wpAnyH_take (i := 12) (oi := ?_) (v := ?_) ?_ ?_ ?_ ?_ ?_ ?_ ?_ ?_; rotate_left 2; rfl; kernel_rfl; kernel_rfl; kernel_rfl; exact (fun _ _ _ h => h)
      · (refine Or.inl ⟨by rfl, ?_⟩; intro w hSw; (try dsimp only at hSw); go_simp; try (with_reducible rfl))
      · assumption
      try simp only [Act.put]
      refine wpAnyH_take (i := 13) (oi := ?_) (v := ?_) ?_ ?_ ?_ ?_ ?_ ?_ ?_ ?_; rotate_left 2; rfl; kernel_rfl; kernel_rfl; kernel_rfl; exact (fun _ _ _ h => h)
      · (refine Or.inl ⟨by rfl, ?_⟩; intro w hSw; (try dsimp only at hSw); go_simp; try (with_reducible rfl))
      · assumption
      try simp only [Act.put]
      refine wpAnyH_take (i := 14) (oi := ?_) (v := ?_) ?_ ?_ ?_ ?_ ?_ ?_ ?_ ?_; rotate_left 2; rfl; kernel_rfl; kernel_rfl; kernel_rfl; exact (fun _ _ _ h => h)
      · (refine Or.inl ⟨by rfl, ?_⟩; intro w hSw; (try dsimp only at hSw); go_simp; try (with_reducible rfl))
      · assumption
      try simp only [Act.put]
      refine wpAnyH_take (i := 15) (oi := ?_) (v := ?_) ?_ ?_ ?_ ?_ ?_ ?_ ?_ ?_; rotate_left 2; rfl; kernel_rfl; kernel_rfl; kernel_rfl; exact (fun _ _ _ h => h)
      · (refine Or.inl ⟨by rfl, ?_⟩; intro w hSw; (try dsimp only at hSw); go_simp; try (with_reducible rfl))
      · assumption
      try simp only [Act.put]
      refine wpAnyH_take (i := 16) (oi := ?_) (v := ?_) ?_ ?_ ?_ ?_ ?_ ?_ ?_ ?_; rotate_left 2; rfl; kernel_rfl; kernel_rfl; kernel_rfl; exact (fun _ _ _ h => h)
      · (refine Or.inl ⟨by rfl, ?_⟩; intro w hSw; (try dsimp only at hSw); go_simp; try (with_reducible rfl))
      · assumption
      try simp only [Act.put]
      refine wpAnyH_take (i := 17) (oi := ?_) (v := ?_) ?_ ?_ ?_ ?_ ?_ ?_ ?_ ?_; rotate_left 2; rfl; kernel_rfl; kernel_rfl; kernel_rfl; exact (fun _ _ _ h => h)
      · (refine Or.inl ⟨by rfl, ?_⟩; intro w hSw; (try dsimp only at hSw); go_simp; try (with_reducible rfl))
      · assumption
      try simp only [Act.put]
      refine wpAnyH_done (by kernel_rfl) ?_ _
      have hB5 : Below w2.heap.size w2 w4 := hHeld
      have HB5 := Lib.hid (HB2.out.trans (hB5.mono HB2.out.size))
      clear hB5 hk hz c1 c2 c3
      go_wp2
      go_ret
      exact ⟨rfl, HB5.out⟩
    
    | bad g =>
      have hg : ∃ c : Int, RIV (readL x.data.toList) = .tuple #[.string ⟨#[]⟩, .string ⟨#[]⟩, .int .i64 c] ∧ (c == 0) = false := by
        rw [hrd]
        refine ⟨_, rfl, ?_⟩
        split <;> decide
      obtain ⟨c, hq, hc0⟩ := hg
      have Hq := Lib.hid hq
      clear hq hrd
      have Hi := Lib.hid hi
      clear hi
      go_wp2_with fail
      refine (Item_any G n ⟨#[120]⟩ (by omega) (by decide) w1 HE1.out).mono ?_
      rintro e w2 ⟨rfl, hB2⟩
      rw [Hi.out]
      simp only [itemV]
      have HE2 := Lib.hid (HE1.out.below hB2)
      have HB2 := Lib.hid (HB1.out.trans (hB2.mono HB1.out.size))
      clear hB2 HE1 HB1
      have Hrx : ∀ W, Below w2.heap.size w2 W → Calls Tryz.prog 15 #[.string (n ++ ⟨#[58, 58]⟩ ++ z ++ baseB v)] W fun e w' => e = .returned (.tuple #[.string ⟨#[]⟩, .string ⟨#[]⟩, .int .i64 c]) ∧ Below W.heap.size W w' := fun W h => by
        rw [show n ++ ⟨#[58, 58]⟩ ++ z ++ baseB v = x from Hx.out.symm, ← Hq.out]
        exact ReadItem_any G x (by omega) W (HE2.out.below h)
      have hk := Hk.out
      have hz : (⟨#[32, 32, 32, 32, 32, 32, 32, 32, 32]⟩ : ByteArray).extract 0 k = z := Hz.out
      have c1 := C1.out
      have c2 := C2.out
      have c3 := C3.out
      have hki : (k : Int) ≤ 9 := by omega
      go_wp2_with fail
      refine wp_region_held_drew (S := fun W => Below w2.heap.size w2 W) (by kernel_rfl) ((Below.refl _ _).drew) (fun hHeld => ?_)
      refine wpAnyH_take (i := 0) (oi := ?_) (v := ?_) ?_ ?_ ?_ ?_ ?_ ?_ ?_ ?_; rotate_left 2; rfl; kernel_rfl; kernel_rfl; kernel_rfl; exact (fun _ _ _ h => h)
      · (refine Or.inl ⟨by rfl, ?_⟩; intro w hSw; (try dsimp only at hSw); go_simp; try (with_reducible rfl))
      · assumption
      try simp only [Act.put, List.setIfInBounds_toArray]
      refine wpAnyH_take (i := 1) (oi := ?_) (v := ?_) ?_ ?_ ?_ ?_ ?_ ?_ ?_ ?_; rotate_left 2; rfl; kernel_rfl; kernel_rfl; kernel_rfl; exact (fun _ _ _ h => h)
      · (refine Or.inl ⟨by rfl, ?_⟩; intro w hSw; (try dsimp only at hSw); go_simp; try (with_reducible rfl))
      · assumption
      try simp only [Act.put]
      refine wpAnyH_take (i := 2) (oi := ?_) (v := ?_) ?_ ?_ ?_ ?_ ?_ ?_ ?_ ?_; rotate_left 2; rfl; kernel_rfl; kernel_rfl; kernel_rfl; exact (fun _ _ _ h => h)
      · (refine Or.inl ⟨by rfl, ?_⟩; intro w hSw; (try dsimp only at hSw); go_simp; try (with_reducible rfl))
      · assumption
      try simp only [Act.put]
      refine wpAnyH_take (i := 3) (oi := ?_) (v := ?_) ?_ ?_ ?_ ?_ ?_ ?_ ?_ ?_; rotate_left 2; rfl; kernel_rfl; kernel_rfl; kernel_rfl; exact (fun _ _ _ h => h)
      · (refine Or.inl ⟨by rfl, ?_⟩; intro w hSw; (try dsimp only at hSw); go_simp; try (with_reducible rfl))
      · assumption
      try simp only [Act.put]
      refine wpAnyH_take (i := 4) (oi := ?_) (v := ?_) ?_ ?_ ?_ ?_ ?_ ?_ ?_ ?_; rotate_left 2; rfl; kernel_rfl; kernel_rfl; kernel_rfl; exact (fun _ _ _ h => h)
      · (refine Or.inl ⟨by rfl, ?_⟩; intro w hSw; (try dsimp only at hSw); go_simp; try (with_reducible rfl))
      · assumption
      try simp only [Act.put]
      refine wpAnyH_take (i := 5) (oi := ?_) (v := ?_) ?_ ?_ ?_ ?_ ?_ ?_ ?_ ?_; rotate_left 2; rfl; kernel_rfl; kernel_rfl; kernel_rfl; exact (fun _ _ _ h => h)
      · (refine Or.inl ⟨by rfl, ?_⟩; intro w hSw; (try dsimp only at hSw); go_simp; try (with_reducible rfl))
      · assumption
      try simp only [Act.put]
      refine wpAnyH_take (i := 6) (oi := ?_) (v := ?_) ?_ ?_ ?_ ?_ ?_ ?_ ?_ ?_; rotate_left 2; rfl; kernel_rfl; kernel_rfl; kernel_rfl; exact (fun _ _ _ h => h)
      · (refine Or.inl ⟨by rfl, ?_⟩; intro w hSw; (try dsimp only at hSw); go_simp; try (with_reducible rfl))
      · assumption
      try simp only [Act.put]
      refine wpAnyH_take (i := 7) (oi := ?_) (v := ?_) ?_ ?_ ?_ ?_ ?_ ?_ ?_ ?_; rotate_left 2; rfl; kernel_rfl; kernel_rfl; kernel_rfl; exact (fun _ _ _ h => h)
      · (refine Or.inl ⟨by rfl, ?_⟩; intro w hSw; (try dsimp only at hSw); go_simp; try (with_reducible rfl))
      · assumption
      try simp only [Act.put]
      refine wpAnyH_ready (rs := [8]) (by kernel_rfl) (by simp) ?_
      refine AllReadyH.cons (o := ?_) ?_ ?_ AllReadyH.nil; rotate_left 1; rfl
      intro K hK
      go_simp
      refine (base_any v (by omega) _).mono ?_
      rintro e w3 ⟨rfl, hb⟩
      try (go_wp2_with fail)
      refine hK.out _ _ (held0_below hHeld (Nat.le_refl _) hb) (fun hHeld => ?_)
      clear hK K
      try simp only [Act.put, List.setIfInBounds_toArray, List.set_cons_zero, List.set_cons_succ]
      refine wpAnyH_take (i := 9) (oi := ?_) (v := ?_) ?_ ?_ ?_ ?_ ?_ ?_ ?_ ?_; rotate_left 2; rfl; kernel_rfl; kernel_rfl; kernel_rfl; exact (fun _ _ _ h => h)
      · (refine Or.inl ⟨by rfl, ?_⟩; intro w hSw; (try dsimp only at hSw); go_simp; try (with_reducible rfl))
      · assumption
      try simp only [Act.put, List.setIfInBounds_toArray]
      refine wpAnyH_ready (rs := [10]) (by kernel_rfl) (by simp) ?_
      refine AllReadyH.cons (o := ?_) ?_ ?_ AllReadyH.nil; rotate_left 1; rfl
      intro K hK
      go_simp
      refine (Hrx _ hHeld).mono ?_
      rintro e w4 ⟨rfl, hb4⟩
      try (go_wp2_with fail)
      refine hK.out _ _ (held0_below hHeld (Nat.le_refl _) hb4) (fun hHeld => ?_)
      clear hK K
      try simp only [Act.put, List.setIfInBounds_toArray, List.set_cons_zero, List.set_cons_succ]
      refine wpAnyH_take (i := 11) (oi := ?_) (v := ?_) ?_ ?_ ?_ ?_ ?_ ?_ ?_ ?_; rotate_left 2; rfl; kernel_rfl; kernel_rfl; kernel_rfl; exact (fun _ _ _ h => h)
      · (refine Or.inl ⟨by rfl, ?_⟩; intro w hSw; (try dsimp only at hSw); go_simp; try (with_reducible rfl))
      · assumption
      try simp only [Act.put, List.setIfInBounds_toArray]
      refine wpAnyH_take (i := 12) (oi := ?_) (v := ?_) ?_ ?_ ?_ ?_ ?_ ?_ ?_ ?_; rotate_left 2; rfl; kernel_rfl; kernel_rfl; kernel_rfl; exact (fun _ _ _ h => h)
      · (refine Or.inl ⟨by rfl, ?_⟩; intro w hSw; (try dsimp only at hSw); go_simp; try (with_reducible rfl))
      · assumption
      try simp only [Act.put]
      refine wpAnyH_take (i := 13) (oi := ?_) (v := ?_) ?_ ?_ ?_ ?_ ?_ ?_ ?_ ?_; rotate_left 2; rfl; kernel_rfl; kernel_rfl; kernel_rfl; exact (fun _ _ _ h => h)
      · (refine Or.inl ⟨by rfl, ?_⟩; intro w hSw; (try dsimp only at hSw); go_simp; try (with_reducible rfl))
      · assumption
      try simp only [Act.put]
      refine wpAnyH_take (i := 14) (oi := ?_) (v := ?_) ?_ ?_ ?_ ?_ ?_ ?_ ?_ ?_; rotate_left 2; rfl; kernel_rfl; kernel_rfl; kernel_rfl; exact (fun _ _ _ h => h)
      · (refine Or.inl ⟨by rfl, ?_⟩; intro w hSw; (try dsimp only at hSw); go_simp; try (with_reducible rfl))
      · assumption
      try simp only [Act.put]
      refine wpAnyH_take (i := 15) (oi := ?_) (v := ?_) ?_ ?_ ?_ ?_ ?_ ?_ ?_ ?_; rotate_left 2; rfl; kernel_rfl; kernel_rfl; kernel_rfl; exact (fun _ _ _ h => h)
      · (refine Or.inl ⟨by rfl, ?_⟩; intro w hSw; (try dsimp only at hSw); go_simp; try (with_reducible rfl))
      · assumption
      try simp only [Act.put]
      refine wpAnyH_take (i := 16) (oi := ?_) (v := ?_) ?_ ?_ ?_ ?_ ?_ ?_ ?_ ?_; rotate_left 2; rfl; kernel_rfl; kernel_rfl; kernel_rfl; exact (fun _ _ _ h => h)
      · (refine Or.inl ⟨by rfl, ?_⟩; intro w hSw; (try dsimp only at hSw); go_simp; try (with_reducible rfl))
      · assumption
      try simp only [Act.put]
      refine wpAnyH_take (i := 17) (oi := ?_) (v := ?_) ?_ ?_ ?_ ?_ ?_ ?_ ?_ ?_; rotate_left 2; rfl; kernel_rfl; kernel_rfl; kernel_rfl; exact (fun _ _ _ h => h)
      · (refine Or.inl ⟨by rfl, ?_⟩; intro w hSw; (try dsimp only at hSw); go_simp; try (with_reducible rfl))
      · assumption
      try simp only [Act.put]
      refine wpAnyH_done (by kernel_rfl) ?_ _
      have hB5 : Below w2.heap.size w2 w4 := hHeld
      have HB5 := Lib.hid (HB2.out.trans (hB5.mono HB2.out.size))
      clear hB5 hk hz c1 c2 c3
      go_wp2
      go_ret
      exact ⟨rfl, HB5.out⟩

  | some l =>
    have hname : isNameL n.data.toList = true := by rw [← hnm, hi]; rfl
    have hrd := read_base hname v k
    rw [← hxl] at hrd
    have hq : RIV (readL x.data.toList) = .tuple #[.string n, .string v, .int .i64 0] := by rw [hrd]; simp only [RIV, mk_list]
    have Hq := Lib.hid hq
    clear hq hrd
    
    have Hi := Lib.hid hi
    clear hi
    go_wp2_with fail
    refine (Item_any G n ⟨#[120]⟩ (by omega) (by decide) w1 HE1.out).mono ?_
    rintro e w2 ⟨rfl, hB2⟩
    rw [Hi.out]
    simp only [itemV]
    have HE2 := Lib.hid (HE1.out.below hB2)
    have HB2 := Lib.hid (HB1.out.trans (hB2.mono HB1.out.size))
    clear hB2 HE1 HB1
    have Hrx : ∀ W, Below w2.heap.size w2 W → Calls Tryz.prog 15 #[.string (n ++ ⟨#[58, 58]⟩ ++ z ++ baseB v)] W fun e w' => e = .returned (.tuple #[.string n, .string v, .int .i64 0]) ∧ Below W.heap.size W w' := fun W h => by
      rw [show n ++ ⟨#[58, 58]⟩ ++ z ++ baseB v = x from Hx.out.symm, ← Hq.out]
      exact ReadItem_any G x (by omega) W (HE2.out.below h)
    have hk := Hk.out
    have hz : (⟨#[32, 32, 32, 32, 32, 32, 32, 32, 32]⟩ : ByteArray).extract 0 k = z := Hz.out
    have c1 := C1.out
    have c2 := C2.out
    have c3 := C3.out
    have hki : (k : Int) ≤ 9 := by omega
    go_wp2_with fail
    refine wp_region_held_drew (S := fun W => Below w2.heap.size w2 W) (by kernel_rfl) ((Below.refl _ _).drew) (fun hHeld => ?_)
    refine wpAnyH_take (i := 0) (oi := ?_) (v := ?_) ?_ ?_ ?_ ?_ ?_ ?_ ?_ ?_; rotate_left 2; rfl; kernel_rfl; kernel_rfl; kernel_rfl; exact (fun _ _ _ h => h)
    · (refine Or.inl ⟨by rfl, ?_⟩; intro w hSw; (try dsimp only at hSw); go_simp; try (with_reducible rfl))
    · assumption
    try simp only [Act.put, List.setIfInBounds_toArray]
    refine wpAnyH_take (i := 1) (oi := ?_) (v := ?_) ?_ ?_ ?_ ?_ ?_ ?_ ?_ ?_; rotate_left 2; rfl; kernel_rfl; kernel_rfl; kernel_rfl; exact (fun _ _ _ h => h)
    · (refine Or.inl ⟨by rfl, ?_⟩; intro w hSw; (try dsimp only at hSw); go_simp; try (with_reducible rfl))
    · assumption
    try simp only [Act.put]
    refine wpAnyH_take (i := 2) (oi := ?_) (v := ?_) ?_ ?_ ?_ ?_ ?_ ?_ ?_ ?_; rotate_left 2; rfl; kernel_rfl; kernel_rfl; kernel_rfl; exact (fun _ _ _ h => h)
    · (refine Or.inl ⟨by rfl, ?_⟩; intro w hSw; (try dsimp only at hSw); go_simp; try (with_reducible rfl))
    · assumption
    try simp only [Act.put]
    refine wpAnyH_take (i := 3) (oi := ?_) (v := ?_) ?_ ?_ ?_ ?_ ?_ ?_ ?_ ?_; rotate_left 2; rfl; kernel_rfl; kernel_rfl; kernel_rfl; exact (fun _ _ _ h => h)
    · (refine Or.inl ⟨by rfl, ?_⟩; intro w hSw; (try dsimp only at hSw); go_simp; try (with_reducible rfl))
    · assumption
    try simp only [Act.put]
    refine wpAnyH_take (i := 4) (oi := ?_) (v := ?_) ?_ ?_ ?_ ?_ ?_ ?_ ?_ ?_; rotate_left 2; rfl; kernel_rfl; kernel_rfl; kernel_rfl; exact (fun _ _ _ h => h)
    · (refine Or.inl ⟨by rfl, ?_⟩; intro w hSw; (try dsimp only at hSw); go_simp; try (with_reducible rfl))
    · assumption
    try simp only [Act.put]
    refine wpAnyH_take (i := 5) (oi := ?_) (v := ?_) ?_ ?_ ?_ ?_ ?_ ?_ ?_ ?_; rotate_left 2; rfl; kernel_rfl; kernel_rfl; kernel_rfl; exact (fun _ _ _ h => h)
    · (refine Or.inl ⟨by rfl, ?_⟩; intro w hSw; (try dsimp only at hSw); go_simp; try (with_reducible rfl))
    · assumption
    try simp only [Act.put]
    refine wpAnyH_take (i := 6) (oi := ?_) (v := ?_) ?_ ?_ ?_ ?_ ?_ ?_ ?_ ?_; rotate_left 2; rfl; kernel_rfl; kernel_rfl; kernel_rfl; exact (fun _ _ _ h => h)
    · (refine Or.inl ⟨by rfl, ?_⟩; intro w hSw; (try dsimp only at hSw); go_simp; try (with_reducible rfl))
    · assumption
    try simp only [Act.put]
    refine wpAnyH_take (i := 7) (oi := ?_) (v := ?_) ?_ ?_ ?_ ?_ ?_ ?_ ?_ ?_; rotate_left 2; rfl; kernel_rfl; kernel_rfl; kernel_rfl; exact (fun _ _ _ h => h)
    · (refine Or.inl ⟨by rfl, ?_⟩; intro w hSw; (try dsimp only at hSw); go_simp; try (with_reducible rfl))
    · assumption
    try simp only [Act.put]
    refine wpAnyH_ready (rs := [8]) (by kernel_rfl) (by simp) ?_
    refine AllReadyH.cons (o := ?_) ?_ ?_ AllReadyH.nil; rotate_left 1; rfl
    intro K hK
    go_simp
    refine (base_any v (by omega) _).mono ?_
    rintro e w3 ⟨rfl, hb⟩
    try (go_wp2_with fail)
    refine hK.out _ _ (held0_below hHeld (Nat.le_refl _) hb) (fun hHeld => ?_)
    clear hK K
    try simp only [Act.put, List.setIfInBounds_toArray, List.set_cons_zero, List.set_cons_succ]
    refine wpAnyH_take (i := 9) (oi := ?_) (v := ?_) ?_ ?_ ?_ ?_ ?_ ?_ ?_ ?_; rotate_left 2; rfl; kernel_rfl; kernel_rfl; kernel_rfl; exact (fun _ _ _ h => h)
    · (refine Or.inl ⟨by rfl, ?_⟩; intro w hSw; (try dsimp only at hSw); go_simp; try (with_reducible rfl))
    · assumption
    try simp only [Act.put, List.setIfInBounds_toArray]
    refine wpAnyH_ready (rs := [10]) (by kernel_rfl) (by simp) ?_
    refine AllReadyH.cons (o := ?_) ?_ ?_ AllReadyH.nil; rotate_left 1; rfl
    intro K hK
    go_simp
    refine (Hrx _ hHeld).mono ?_
    rintro e w4 ⟨rfl, hb4⟩
    try (go_wp2_with fail)
    refine hK.out _ _ (held0_below hHeld (Nat.le_refl _) hb4) (fun hHeld => ?_)
    clear hK K
    try simp only [Act.put, List.setIfInBounds_toArray, List.set_cons_zero, List.set_cons_succ]
    refine wpAnyH_take (i := 11) (oi := ?_) (v := ?_) ?_ ?_ ?_ ?_ ?_ ?_ ?_ ?_; rotate_left 2; rfl; kernel_rfl; kernel_rfl; kernel_rfl; exact (fun _ _ _ h => h)
    · (refine Or.inl ⟨by rfl, ?_⟩; intro w hSw; (try dsimp only at hSw); go_simp; try (with_reducible rfl))
    · assumption
    try simp only [Act.put, List.setIfInBounds_toArray]
    refine wpAnyH_take (i := 12) (oi := ?_) (v := ?_) ?_ ?_ ?_ ?_ ?_ ?_ ?_ ?_; rotate_left 2; rfl; kernel_rfl; kernel_rfl; kernel_rfl; exact (fun _ _ _ h => h)
    · (refine Or.inl ⟨by rfl, ?_⟩; intro w hSw; (try dsimp only at hSw); go_simp; try (with_reducible rfl))
    · assumption
    try simp only [Act.put]
    refine wpAnyH_take (i := 13) (oi := ?_) (v := ?_) ?_ ?_ ?_ ?_ ?_ ?_ ?_ ?_; rotate_left 2; rfl; kernel_rfl; kernel_rfl; kernel_rfl; exact (fun _ _ _ h => h)
    · (refine Or.inl ⟨by rfl, ?_⟩; intro w hSw; (try dsimp only at hSw); go_simp; try (with_reducible rfl))
    · assumption
    try simp only [Act.put]
    refine wpAnyH_take (i := 14) (oi := ?_) (v := ?_) ?_ ?_ ?_ ?_ ?_ ?_ ?_ ?_; rotate_left 2; rfl; kernel_rfl; kernel_rfl; kernel_rfl; exact (fun _ _ _ h => h)
    · (refine Or.inl ⟨by rfl, ?_⟩; intro w hSw; (try dsimp only at hSw); go_simp; try (with_reducible rfl))
    · assumption
    try simp only [Act.put]
    refine wpAnyH_take (i := 15) (oi := ?_) (v := ?_) ?_ ?_ ?_ ?_ ?_ ?_ ?_ ?_; rotate_left 2; rfl; kernel_rfl; kernel_rfl; kernel_rfl; exact (fun _ _ _ h => h)
    · (refine Or.inl ⟨by rfl, ?_⟩; intro w hSw; (try dsimp only at hSw); go_simp; try (with_reducible rfl))
    · assumption
    try simp only [Act.put]
    refine wpAnyH_take (i := 16) (oi := ?_) (v := ?_) ?_ ?_ ?_ ?_ ?_ ?_ ?_ ?_; rotate_left 2; rfl; kernel_rfl; kernel_rfl; kernel_rfl; exact (fun _ _ _ h => h)
    · (refine Or.inl ⟨by rfl, ?_⟩; intro w hSw; (try dsimp only at hSw); go_simp; try (with_reducible rfl))
    · assumption
    try simp only [Act.put]
    refine wpAnyH_take (i := 17) (oi := ?_) (v := ?_) ?_ ?_ ?_ ?_ ?_ ?_ ?_ ?_; rotate_left 2; rfl; kernel_rfl; kernel_rfl; kernel_rfl; exact (fun _ _ _ h => h)
    · (refine Or.inl ⟨by rfl, ?_⟩; intro w hSw; (try dsimp only at hSw); go_simp; try (with_reducible rfl))
    · assumption
    try simp only [Act.put]
    refine wpAnyH_done (by kernel_rfl) ?_ _
    
    have hB5 : Below w2.heap.size w2 w4 := hHeld
    have HB5 := Lib.hid (HB2.out.trans (hB5.mono HB2.out.size))
    clear hB5 hk hz c1 c2 c3
    go_wp2
    go_ret
    exact ⟨rfl, HB5.out⟩

end Go.Proofs.YtbocflglknkiaaaGreatDoor
