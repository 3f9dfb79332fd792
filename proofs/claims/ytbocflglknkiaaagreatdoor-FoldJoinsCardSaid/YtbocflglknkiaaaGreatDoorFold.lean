/- fold.Fold. -/
import Derived.Test.YtbocflglknkiaaaGreatDoorAnyC
import Derived.Test.YtbocflglknkiaaaGreatDoorPlainC
import Derived.Test.YtbocflglknkiaaaGreatDoorFoldC
namespace Go.Proofs.YtbocflglknkiaaaGreatDoor
open Go.RowKit Go.Shelf

/-- What Fold says of a line. -/
def foldV (s : ByteArray) : Value :=
  if 8000 < s.size then .tuple #[.string ⟨#[]⟩, .int .i64 131] else if hasCrlf s.data.toList then .tuple #[.string ⟨#[]⟩, .int .i64 150]
  else .tuple #[.string ⟨(foldT s.data.toList).toArray⟩, .int .i64 0]
def FoldPost (s : ByteArray) (w : World) (e : Ending) (w' : World) : Prop := e = .returned (foldV s) ∧ Below w.heap.size w w'
theorem foldF_eq {n : Nat} {s : List UInt8} (m : Nat) (h1 : s.length ≤ n - 1) (h2 : s.length ≤ m) (h0 : 1 ≤ n) : foldF n 75 s = foldF (m + 1) 75 s := by
  obtain ⟨n, rfl⟩ : ∃ q, n = q + 1 := ⟨n - 1, by omega⟩
  exact foldF_fuel n m 75 s (by omega) (by omega) h2
theorem drop_ne {s : List UInt8} {k : Nat} (h : k < s.length) : s.drop k ≠ [] := fun e => by
  have := congrArg List.length e
  simp at this; omega

set_option maxHeartbeats 3000000 in
set_option maxRecDepth 100000 in
theorem Fold_any (G : Nat → Addr) (s : ByteArray) (hs : s.size ≤ 1000000) (w : World) (hE : Env G w) :
    Calls Tryz.prog 10 #[.string s] w (FoldPost s w) := by
  have hs1 := hE.s_fold_errLarge.cell
  have hs2 := hE.s_fold_errFold.cell
  have hca := fun W => containsAny_any s (by omega) W
  obtain ⟨q, hq⟩ : ∃ q, q = hasCrlf s.data.toList := ⟨_, rfl⟩
  rw [← hq] at hca
  have HQ := Lib.hid hq
  have Hca := Lib.hid hca
  have HE := Lib.hid hE
  clear hq hca hE
  by_cases hbig : 8000 < s.size
  · have e0 : decide ((8000 : Int) < (s.size : Int)) = true := by simp; omega
    have Hv := Lib.hid (show foldV s = .tuple #[.string ⟨#[]⟩, .int .i64 131] by unfold foldV; rw [if_pos hbig])
    clear hbig
    go_enter Tryz.func10, Tryz.ntmps10
    go_wp2_with fail
    refine wp_region_held_drew (S := fun W => W.cell? ⟨0, 0, none⟩ = some (.iface 159 (.pointer (some (G 0)))) ∧ W.cell? ⟨1, 0, none⟩ = some (.iface 159 (.pointer (some (G 1)))) ∧ Below w.heap.size w W) (by kernel_rfl) (held2_drew ⟨hs1, hs2, Below.refl _ _⟩) (fun hHeld => ?_)
    refine wpAnyH_take (i := 0) (oi := ?_) (v := ?_) ?_ ?_ ?_ ?_ ?_ ?_ ?_ ?_; rotate_left 2; rfl; kernel_rfl; kernel_rfl; kernel_rfl; exact (fun _ _ _ h => h)
    · (refine Or.inl ⟨by rfl, ?_⟩; intro w hSw; (try dsimp only at hSw); go_simp; try (with_reducible rfl))
    · assumption
    try simp only [Act.put, List.setIfInBounds_toArray]
    refine wpAnyH_take (i := 1) (oi := ?_) (v := ?_) ?_ ?_ ?_ ?_ ?_ ?_ ?_ ?_; rotate_left 2; rfl; kernel_rfl; kernel_rfl; kernel_rfl; exact (fun _ _ _ h => h)
    · (refine Or.inl ⟨by rfl, ?_⟩; intro w hSw; (try dsimp only at hSw); go_simp; try (with_reducible rfl))
    · assumption
    try simp only [Act.put]
    refine wpAnyH_take (i := 2) (oi := ?_) (v := ?_) ?_ ?_ ?_ ?_ ?_ ?_ ?_ ?_; rotate_left 2; rfl; kernel_rfl; kernel_rfl; kernel_rfl; exact (fun _ _ _ h => h)
    · (refine Or.inl ⟨by rfl, ?_⟩; intro w hSw; (try dsimp only at hSw); go_simp; try (with_reducible rfl))
    · assumption
    try simp only [Act.put]
    refine wpAnyH_take (i := 3) (oi := ?_) (v := ?_) ?_ ?_ ?_ ?_ ?_ ?_ ?_ ?_; rotate_left 2; rfl; kernel_rfl; kernel_rfl; kernel_rfl; exact (fun _ _ _ h => h)
    · (refine Or.inl ⟨by rfl, ?_⟩; intro w hSw; (try dsimp only at hSw); go_simp; try (with_reducible rfl))
    · assumption
    try simp only [Act.put]
    refine wpAnyH_take (i := 4) (oi := ?_) (v := ?_) ?_ ?_ ?_ ?_ ?_ ?_ ?_ ?_; rotate_left 2; rfl; kernel_rfl; kernel_rfl; kernel_rfl; exact (fun _ _ _ h => h)
    · (refine Or.inl ⟨by rfl, ?_⟩; intro w hSw; (try dsimp only at hSw); go_simp; try (with_reducible rfl))
    · assumption
    try simp only [Act.put]
    refine wpAnyH_take (i := 5) (oi := ?_) (v := ?_) ?_ ?_ ?_ ?_ ?_ ?_ ?_ ?_; rotate_left 2; rfl; kernel_rfl; kernel_rfl; kernel_rfl; exact (fun _ _ _ h => h)
    · (refine Or.inl ⟨by rfl, ?_⟩; intro w hSw; (try dsimp only at hSw); go_simp; try (with_reducible rfl))
    · assumption
    try simp only [Act.put]
    refine wpAnyH_take (i := 7) (oi := ?_) (v := ?_) ?_ ?_ ?_ ?_ ?_ ?_ ?_ ?_; rotate_left 2; rfl; kernel_rfl; kernel_rfl; kernel_rfl; exact (fun _ _ _ h => h)
    · (refine Or.inl ⟨by rfl, ?_⟩; intro w hSw; (try dsimp only at hSw); go_simp; try (with_reducible rfl))
    · assumption
    try simp only [Act.put]
    refine wpAnyH_ready (rs := [6]) (by kernel_rfl) (by simp) ?_
    refine AllReadyH.cons (o := ?_) ?_ ?_ AllReadyH.nil; rotate_left 1; rfl
    intro K hK
    go_simp
    refine (Hca.out _).mono ?_
    rintro e w2 ⟨rfl, hb⟩
    try (go_wp2_with fail)
    refine hK.out _ _ (held2_below hHeld (Nat.le_refl _) hb) (fun hHeld => ?_)
    clear hK K
    try simp only [Act.put, List.setIfInBounds_toArray, List.set_cons_zero, List.set_cons_succ]
    refine wpAnyH_take (i := 8) (oi := ?_) (v := ?_) ?_ ?_ ?_ ?_ ?_ ?_ ?_ ?_; rotate_left 2; rfl; kernel_rfl; kernel_rfl; kernel_rfl; exact (fun _ _ _ h => h)
    · (refine Or.inl ⟨by rfl, ?_⟩; intro w hSw; (try dsimp only at hSw); go_simp; try (with_reducible rfl))
    · assumption
    try simp only [Act.put, List.setIfInBounds_toArray]
    refine wpAnyH_ready (rs := [9]) (by kernel_rfl) (by simp) ?_
    refine AllReadyH.cons (o := ?_) ?_ ?_ AllReadyH.nil; rotate_left 1; rfl
    intro K hK
    go_simp
    refine hK.out _ _ (held2_alloc hHeld (Nat.le_refl _) _) (fun hHeld => ?_)
    clear hK K
    try simp only [Act.put, List.setIfInBounds_toArray, List.set_cons_zero, List.set_cons_succ]
    refine wpAnyH_ready (rs := [10]) (by kernel_rfl) (by simp) ?_
    refine AllReadyH.cons (o := ?_) ?_ ?_ AllReadyH.nil; rotate_left 1; rfl
    intro K hK
    go_simp
    refine (first_two _ _ _ _ _ _).mono ?_
    rintro e w3 ⟨rfl, hb3⟩
    try (go_wp2_with fail)
    refine hK.out _ _ (held2_below hHeld (Nat.le_refl _) hb3) (fun hHeld => ?_)
    clear hK K
    try simp only [Act.put, List.setIfInBounds_toArray, List.set_cons_zero, List.set_cons_succ]
    refine wpAnyH_take (i := 11) (oi := ?_) (v := ?_) ?_ ?_ ?_ ?_ ?_ ?_ ?_ ?_; rotate_left 2; rfl; kernel_rfl; kernel_rfl; kernel_rfl; exact (fun _ _ _ h => h)
    · (refine Or.inl ⟨by rfl, ?_⟩; intro w hSw; (try dsimp only at hSw); go_simp; try (with_reducible rfl))
    · assumption
    try simp only [Act.put, List.setIfInBounds_toArray]
    refine wpAnyH_done (by kernel_rfl) ?_ _
    obtain ⟨_, _, hB3⟩ := hHeld
    have hE3 := HE.out.below hB3
    clear hs1 hs2
    simp only [firstV, if_true]
    go_wp2_with fail
    refine (fold_told_errLarge G 0 _ hE3).mono ?_
    rintro e w4 ⟨rfl, hB4⟩
    go_wp2
    go_ret2
    exact ⟨by rw [Hv.out]; rfl, hB3.trans (hB4.mono hB3.size)⟩
  · have e0 : decide ((8000 : Int) < (s.size : Int)) = false := by simp; omega
    cases q with
    | true =>
      have Hv := Lib.hid (show foldV s = .tuple #[.string ⟨#[]⟩, .int .i64 150] by unfold foldV; rw [if_neg hbig, ← HQ.out, if_pos rfl])
      clear hbig
      go_enter Tryz.func10, Tryz.ntmps10
      go_wp2_with fail
      refine wp_region_held_drew (S := fun W => W.cell? ⟨0, 0, none⟩ = some (.iface 159 (.pointer (some (G 0)))) ∧ W.cell? ⟨1, 0, none⟩ = some (.iface 159 (.pointer (some (G 1)))) ∧ Below w.heap.size w W) (by kernel_rfl) (held2_drew ⟨hs1, hs2, Below.refl _ _⟩) (fun hHeld => ?_)
      refine wpAnyH_take (i := 0) (oi := ?_) (v := ?_) ?_ ?_ ?_ ?_ ?_ ?_ ?_ ?_; rotate_left 2; rfl; kernel_rfl; kernel_rfl; kernel_rfl; exact (fun _ _ _ h => h)
      · (refine Or.inl ⟨by rfl, ?_⟩; intro w hSw; (try dsimp only at hSw); go_simp; try (with_reducible rfl))
      · assumption
      try simp only [Act.put, List.setIfInBounds_toArray]
      refine wpAnyH_take (i := 1) (oi := ?_) (v := ?_) ?_ ?_ ?_ ?_ ?_ ?_ ?_ ?_; rotate_left 2; rfl; kernel_rfl; kernel_rfl; kernel_rfl; exact (fun _ _ _ h => h)
      · (refine Or.inl ⟨by rfl, ?_⟩; intro w hSw; (try dsimp only at hSw); go_simp; try (with_reducible rfl))
      · assumption
      try simp only [Act.put]
      refine wpAnyH_take (i := 2) (oi := ?_) (v := ?_) ?_ ?_ ?_ ?_ ?_ ?_ ?_ ?_; rotate_left 2; rfl; kernel_rfl; kernel_rfl; kernel_rfl; exact (fun _ _ _ h => h)
      · (refine Or.inl ⟨by rfl, ?_⟩; intro w hSw; (try dsimp only at hSw); go_simp; try (with_reducible rfl))
      · assumption
      try simp only [Act.put]
      refine wpAnyH_take (i := 3) (oi := ?_) (v := ?_) ?_ ?_ ?_ ?_ ?_ ?_ ?_ ?_; rotate_left 2; rfl; kernel_rfl; kernel_rfl; kernel_rfl; exact (fun _ _ _ h => h)
      · (refine Or.inl ⟨by rfl, ?_⟩; intro w hSw; (try dsimp only at hSw); go_simp; try (with_reducible rfl))
      · assumption
      try simp only [Act.put]
      refine wpAnyH_take (i := 4) (oi := ?_) (v := ?_) ?_ ?_ ?_ ?_ ?_ ?_ ?_ ?_; rotate_left 2; rfl; kernel_rfl; kernel_rfl; kernel_rfl; exact (fun _ _ _ h => h)
      · (refine Or.inl ⟨by rfl, ?_⟩; intro w hSw; (try dsimp only at hSw); go_simp; try (with_reducible rfl))
      · assumption
      try simp only [Act.put]
      refine wpAnyH_take (i := 5) (oi := ?_) (v := ?_) ?_ ?_ ?_ ?_ ?_ ?_ ?_ ?_; rotate_left 2; rfl; kernel_rfl; kernel_rfl; kernel_rfl; exact (fun _ _ _ h => h)
      · (refine Or.inl ⟨by rfl, ?_⟩; intro w hSw; (try dsimp only at hSw); go_simp; try (with_reducible rfl))
      · assumption
      try simp only [Act.put]
      refine wpAnyH_take (i := 7) (oi := ?_) (v := ?_) ?_ ?_ ?_ ?_ ?_ ?_ ?_ ?_; rotate_left 2; rfl; kernel_rfl; kernel_rfl; kernel_rfl; exact (fun _ _ _ h => h)
      · (refine Or.inl ⟨by rfl, ?_⟩; intro w hSw; (try dsimp only at hSw); go_simp; try (with_reducible rfl))
      · assumption
      try simp only [Act.put]
      refine wpAnyH_ready (rs := [6]) (by kernel_rfl) (by simp) ?_
      refine AllReadyH.cons (o := ?_) ?_ ?_ AllReadyH.nil; rotate_left 1; rfl
      intro K hK
      go_simp
      refine (Hca.out _).mono ?_
      rintro e w2 ⟨rfl, hb⟩
      try (go_wp2_with fail)
      refine hK.out _ _ (held2_below hHeld (Nat.le_refl _) hb) (fun hHeld => ?_)
      clear hK K
      try simp only [Act.put, List.setIfInBounds_toArray, List.set_cons_zero, List.set_cons_succ]
      refine wpAnyH_take (i := 8) (oi := ?_) (v := ?_) ?_ ?_ ?_ ?_ ?_ ?_ ?_ ?_; rotate_left 2; rfl; kernel_rfl; kernel_rfl; kernel_rfl; exact (fun _ _ _ h => h)
      · (refine Or.inl ⟨by rfl, ?_⟩; intro w hSw; (try dsimp only at hSw); go_simp; try (with_reducible rfl))
      · assumption
      try simp only [Act.put, List.setIfInBounds_toArray]
      refine wpAnyH_ready (rs := [9]) (by kernel_rfl) (by simp) ?_
      refine AllReadyH.cons (o := ?_) ?_ ?_ AllReadyH.nil; rotate_left 1; rfl
      intro K hK
      go_simp
      refine hK.out _ _ (held2_alloc hHeld (Nat.le_refl _) _) (fun hHeld => ?_)
      clear hK K
      try simp only [Act.put, List.setIfInBounds_toArray, List.set_cons_zero, List.set_cons_succ]
      refine wpAnyH_ready (rs := [10]) (by kernel_rfl) (by simp) ?_
      refine AllReadyH.cons (o := ?_) ?_ ?_ AllReadyH.nil; rotate_left 1; rfl
      intro K hK
      go_simp
      refine (first_two _ _ _ _ _ _).mono ?_
      rintro e w3 ⟨rfl, hb3⟩
      try (go_wp2_with fail)
      refine hK.out _ _ (held2_below hHeld (Nat.le_refl _) hb3) (fun hHeld => ?_)
      clear hK K
      try simp only [Act.put, List.setIfInBounds_toArray, List.set_cons_zero, List.set_cons_succ]
      refine wpAnyH_take (i := 11) (oi := ?_) (v := ?_) ?_ ?_ ?_ ?_ ?_ ?_ ?_ ?_; rotate_left 2; rfl; kernel_rfl; kernel_rfl; kernel_rfl; exact (fun _ _ _ h => h)
      · (refine Or.inl ⟨by rfl, ?_⟩; intro w hSw; (try dsimp only at hSw); go_simp; try (with_reducible rfl))
      · assumption
      try simp only [Act.put, List.setIfInBounds_toArray]
      refine wpAnyH_done (by kernel_rfl) ?_ _
      obtain ⟨_, _, hB3⟩ := hHeld
      have hE3 := HE.out.below hB3
      clear hs1 hs2
      simp only [firstV, if_true, Bool.false_eq_true, if_false]
      go_wp2_with fail
      refine (fold_told_errFold G 0 _ hE3).mono ?_
      rintro e w4 ⟨rfl, hB4⟩
      go_wp2
      go_ret2
      exact ⟨by rw [Hv.out]; rfl, hB3.trans (hB4.mono hB3.size)⟩
    | false =>
      have Hv := Lib.hid (show foldV s = .tuple #[.string ⟨(foldT s.data.toList).toArray⟩, .int .i64 0] by unfold foldV; rw [if_neg hbig, ← HQ.out, if_neg (by decide)])
      have h8 : s.size ≤ 8000 := by omega
      clear hbig
      go_enter Tryz.func10, Tryz.ntmps10
      go_wp2_with fail
      refine wp_region_held_drew (S := fun W => W.cell? ⟨0, 0, none⟩ = some (.iface 159 (.pointer (some (G 0)))) ∧ W.cell? ⟨1, 0, none⟩ = some (.iface 159 (.pointer (some (G 1)))) ∧ Below w.heap.size w W) (by kernel_rfl) (held2_drew ⟨hs1, hs2, Below.refl _ _⟩) (fun hHeld => ?_)
      refine wpAnyH_take (i := 0) (oi := ?_) (v := ?_) ?_ ?_ ?_ ?_ ?_ ?_ ?_ ?_; rotate_left 2; rfl; kernel_rfl; kernel_rfl; kernel_rfl; exact (fun _ _ _ h => h)
      · (refine Or.inl ⟨by rfl, ?_⟩; intro w hSw; (try dsimp only at hSw); go_simp; try (with_reducible rfl))
      · assumption
      try simp only [Act.put, List.setIfInBounds_toArray]
      refine wpAnyH_take (i := 1) (oi := ?_) (v := ?_) ?_ ?_ ?_ ?_ ?_ ?_ ?_ ?_; rotate_left 2; rfl; kernel_rfl; kernel_rfl; kernel_rfl; exact (fun _ _ _ h => h)
      · (refine Or.inl ⟨by rfl, ?_⟩; intro w hSw; (try dsimp only at hSw); go_simp; try (with_reducible rfl))
      · assumption
      try simp only [Act.put]
      refine wpAnyH_take (i := 2) (oi := ?_) (v := ?_) ?_ ?_ ?_ ?_ ?_ ?_ ?_ ?_; rotate_left 2; rfl; kernel_rfl; kernel_rfl; kernel_rfl; exact (fun _ _ _ h => h)
      · (refine Or.inl ⟨by rfl, ?_⟩; intro w hSw; (try dsimp only at hSw); go_simp; try (with_reducible rfl))
      · assumption
      try simp only [Act.put]
      refine wpAnyH_take (i := 3) (oi := ?_) (v := ?_) ?_ ?_ ?_ ?_ ?_ ?_ ?_ ?_; rotate_left 2; rfl; kernel_rfl; kernel_rfl; kernel_rfl; exact (fun _ _ _ h => h)
      · (refine Or.inl ⟨by rfl, ?_⟩; intro w hSw; (try dsimp only at hSw); go_simp; try (with_reducible rfl))
      · assumption
      try simp only [Act.put]
      refine wpAnyH_take (i := 4) (oi := ?_) (v := ?_) ?_ ?_ ?_ ?_ ?_ ?_ ?_ ?_; rotate_left 2; rfl; kernel_rfl; kernel_rfl; kernel_rfl; exact (fun _ _ _ h => h)
      · (refine Or.inl ⟨by rfl, ?_⟩; intro w hSw; (try dsimp only at hSw); go_simp; try (with_reducible rfl))
      · assumption
      try simp only [Act.put]
      refine wpAnyH_take (i := 5) (oi := ?_) (v := ?_) ?_ ?_ ?_ ?_ ?_ ?_ ?_ ?_; rotate_left 2; rfl; kernel_rfl; kernel_rfl; kernel_rfl; exact (fun _ _ _ h => h)
      · (refine Or.inl ⟨by rfl, ?_⟩; intro w hSw; (try dsimp only at hSw); go_simp; try (with_reducible rfl))
      · assumption
      try simp only [Act.put]
      refine wpAnyH_take (i := 7) (oi := ?_) (v := ?_) ?_ ?_ ?_ ?_ ?_ ?_ ?_ ?_; rotate_left 2; rfl; kernel_rfl; kernel_rfl; kernel_rfl; exact (fun _ _ _ h => h)
      · (refine Or.inl ⟨by rfl, ?_⟩; intro w hSw; (try dsimp only at hSw); go_simp; try (with_reducible rfl))
      · assumption
      try simp only [Act.put]
      refine wpAnyH_ready (rs := [6]) (by kernel_rfl) (by simp) ?_
      refine AllReadyH.cons (o := ?_) ?_ ?_ AllReadyH.nil; rotate_left 1; rfl
      intro K hK
      go_simp
      refine (Hca.out _).mono ?_
      rintro e w2 ⟨rfl, hb⟩
      try (go_wp2_with fail)
      refine hK.out _ _ (held2_below hHeld (Nat.le_refl _) hb) (fun hHeld => ?_)
      clear hK K
      try simp only [Act.put, List.setIfInBounds_toArray, List.set_cons_zero, List.set_cons_succ]
      refine wpAnyH_take (i := 8) (oi := ?_) (v := ?_) ?_ ?_ ?_ ?_ ?_ ?_ ?_ ?_; rotate_left 2; rfl; kernel_rfl; kernel_rfl; kernel_rfl; exact (fun _ _ _ h => h)
      · (refine Or.inl ⟨by rfl, ?_⟩; intro w hSw; (try dsimp only at hSw); go_simp; try (with_reducible rfl))
      · assumption
      try simp only [Act.put, List.setIfInBounds_toArray]
      refine wpAnyH_ready (rs := [9]) (by kernel_rfl) (by simp) ?_
      refine AllReadyH.cons (o := ?_) ?_ ?_ AllReadyH.nil; rotate_left 1; rfl
      intro K hK
      go_simp
      refine hK.out _ _ (held2_alloc hHeld (Nat.le_refl _) _) (fun hHeld => ?_)
      clear hK K
      try simp only [Act.put, List.setIfInBounds_toArray, List.set_cons_zero, List.set_cons_succ]
      refine wpAnyH_ready (rs := [10]) (by kernel_rfl) (by simp) ?_
      refine AllReadyH.cons (o := ?_) ?_ ?_ AllReadyH.nil; rotate_left 1; rfl
      intro K hK
      go_simp
      refine (first_two _ _ _ _ _ _).mono ?_
      rintro e w3 ⟨rfl, hb3⟩
      try (go_wp2_with fail)
      refine hK.out _ _ (held2_below hHeld (Nat.le_refl _) hb3) (fun hHeld => ?_)
      clear hK K
      try simp only [Act.put, List.setIfInBounds_toArray, List.set_cons_zero, List.set_cons_succ]
      refine wpAnyH_take (i := 11) (oi := ?_) (v := ?_) ?_ ?_ ?_ ?_ ?_ ?_ ?_ ?_; rotate_left 2; rfl; kernel_rfl; kernel_rfl; kernel_rfl; exact (fun _ _ _ h => h)
      · (refine Or.inl ⟨by rfl, ?_⟩; intro w hSw; (try dsimp only at hSw); go_simp; try (with_reducible rfl))
      · assumption
      try simp only [Act.put, List.setIfInBounds_toArray]
      refine wpAnyH_done (by kernel_rfl) ?_ _
      obtain ⟨_, _, hB3⟩ := hHeld
      clear hs1 hs2
      simp only [Bool.false_eq_true, if_false, firstV]
      go_wp2_with fail
      have HB3 := Lib.hid (show Below w.heap.size w (w3.alloc (.cells #[.pointer none, .slice none 0 0] 46)) from hB3.alloc hB3.size _)
      have HI3 := Lib.hid (IsB.fresh w3)
      obtain ⟨b, hb⟩ : ∃ b, b = w3.heap.size := ⟨_, rfl⟩
      have hbw : w.heap.size ≤ b := by have := hB3.size; omega
      rw [← hb] at HI3
      rw [← hb]
      obtain ⟨W3, hW3⟩ : ∃ W, W = w3.alloc (.cells #[.pointer none, .slice none 0 0] 46) := ⟨_, rfl⟩
      rw [← hW3] at HB3 HI3
      rw [← hW3]
      have hbW : b < W3.heap.size := by rw [hW3, hb]; simp
      clear hW3 hb hB3 hb3 HE HQ Hca
      go_loopw [0, 6] (fun a q wr => ∃ (k : Nat) (r : ByteArray) (acc : List UInt8), a = .string r ∧ q = .int .i64 k ∧ 75 ≤ k ∧ k ≤ 76 ∧ r.size ≤ 8000 ∧ acc.length ≤ 20000 ∧ Hid (acc ++ foldF (r.size + 1) k r.data.toList = foldT s.data.toList) ∧ Hid (IsB b b (Lib.byteCells acc) wr) ∧ Hid (Below w.heap.size w wr) ∧ b < wr.heap.size)
        (fun a _ _ => match a with | .string r => r.size | _ => 0)
      case atStart => exact ⟨76, s, [], rfl, rfl, by omega, by omega, by omega, by simp, Lib.hid (by rw [List.nil_append, foldT]; simp), HI3, HB3, hbW⟩
      case round =>
        obtain ⟨k, r, acc, rfl, rfl, hk1, hk2, hr8, hacc, hfo, hI, hBw, hbr⟩ := hrel
        clear HI3 HB3 hbW
        have h8l : r.data.toList.length = r.size := by simp
        rcases Nat.lt_or_ge k r.size with hlt | hge
        · have hmin : min (r.size : Int) (k : Int) = (k : Int) := by omega
          have hkr : (k : Int) ≤ (r.size : Int) := by omega
          have hxl : (r.extract 0 k ++ (⟨#[10]⟩ : ByteArray)).data.toList = r.data.toList.take k ++ [10] := by simp
          have hxs : (r.extract 0 k ++ (⟨#[10]⟩ : ByteArray)).size = k + 1 := by rw [ByteArray.size_append, ByteArray.size_extract]; show min k r.size - 0 + 1 = k + 1; omega
          have hrl : (r.extract k r.size).data.toList = r.data.toList.drop k := by
            simp only [ByteArray.data_extract, Array.toList_extract, List.extract_eq_take_drop]
            rw [List.take_of_length_le (by simp)]
          have hrs : (r.extract k r.size).size = r.size - k := by rw [ByteArray.size_extract]; omega
          have hfo2 := hfo.out
          rw [foldF_succ, if_neg (drop_ne (by omega)), foldF_eq (r.extract k r.size).size (by rw [List.length_drop]; omega) (by rw [List.length_drop]; omega) (by omega), ← hrl] at hfo2
          have hfo3 : Hid ((acc ++ (r.data.toList.take k ++ [10]) ++ [32]) ++ foldF ((r.extract k r.size).size + 1) 75 (r.extract k r.size).data.toList = foldT s.data.toList) := Lib.hid (by rw [← hfo2]; simp)
          have hal : (acc ++ (r.data.toList.take k ++ [10]) ++ [32]).length ≤ 20000 := by
            have h1 := congrArg List.length hfo3.out
            have h2 := foldT_length s.data.toList
            have h3 : s.data.toList.length = s.size := by simp
            rw [List.length_append] at h1
            omega
          obtain ⟨r2, hr2⟩ : ∃ r2, r2 = r.extract k r.size := ⟨_, rfl⟩
          have hne : (r.extract k r.size).toList.isEmpty = false := by
            rw [ByteArray.toList_eq, hrl]
            cases h : r.data.toList.drop k with
            | nil => exact absurd h (drop_ne (by omega))
            | cons a t => rfl
          have hne2 : ((r.extract k r.size).toList == []) = false := by
            rw [beq_eq_false_iff_ne, ByteArray.toList_eq, hrl]; exact drop_ne (by omega)
          have HXL := Lib.hid hxl
          have HRS := Lib.hid hrs
          have hi1 := hI.out
          have Hw1 := Lib.hid (wString b b (Lib.byteCells acc) (r.extract 0 k ++ (⟨#[10]⟩ : ByteArray)) wr hi1 (by rw [Lib.byteCells_length, hxs]; omega) (by omega))
          have hbc := Lib.byteCells_length (acc ++ (r.data.toList.take k ++ [10]))
          have hal2 : (acc ++ (r.data.toList.take k ++ [10])).length ≤ 20000 := by
            rw [List.length_append] at hal; omega
          have Hbc := Lib.hid hbc
          clear hfo2 hxl hxs hrl hrs hfo hi1 hbc
          go_wp2_with fail
          refine Hw1.out.mono ?_
          rintro e w4 ⟨rfl, hI4, hB4, hO4⟩
          have hI5 : IsB b b (Lib.byteCells (acc ++ (r.data.toList.take k ++ [10]))) w4 := by
            rw [Lib.byteCells_append, ← HXL.out]; exact hI4
          have hbw4 := hI5.lt
          have HI5 := Lib.hid hI5
          have HB4 := Lib.hid (hBw.out.trans (hB4.mono hbw))
          have Hw2 := Lib.hid (wByte b b _ 32 w4 hI5 (by rw [Hbc.out]; omega) (by omega))
          clear hI4 hI5 hB4 hO4 Hw1
          go_wp2_with fail
          refine Hw2.out.mono ?_
          rintro e w5 ⟨rfl, hI6, hB6, hO6⟩
          have hI7 : IsB b b (Lib.byteCells (acc ++ (r.data.toList.take k ++ [10]) ++ [32])) w5 := by
            rw [Lib.byteCells_append]; exact hI6
          have hbw5 := hI7.lt
          have HI7 := Lib.hid hI7
          have HB6 := Lib.hid (HB4.out.trans (hB6.mono hbw))
          clear hI6 hI7 hB6 hO6 Hw2 HI5 HB4 hI hBw
          go_wp2
          go_roundw
          case rel => exact ⟨75, r.extract k r.size, _, rfl, rfl, Nat.le_refl _, by omega, by rw [HRS.out]; omega, hal, hfo3, HI7, HB6, hbw5⟩
          case measure => show (r.extract k r.size).size < r.size; rw [HRS.out]; omega
        · have hmin : min (r.size : Int) (k : Int) = (r.size : Int) := by omega
          have hxl : (r ++ (⟨#[10]⟩ : ByteArray)).data.toList = r.data.toList ++ [10] := by simp
          have hxs : (r ++ (⟨#[10]⟩ : ByteArray)).size = r.size + 1 := by rw [ByteArray.size_append]; rfl
          have hfo2 := hfo.out
          rw [foldF_succ, if_pos (List.drop_of_length_le (by omega)), List.take_of_length_le (by omega)] at hfo2
          have he1 : (r.extract r.size r.size).toList = [] := by rw [ByteArray.toList_eq]; simp
          have HXL := Lib.hid hxl
          have Hfo2 := Lib.hid hfo2
          have hi1 := hI.out
          have Hw1 := Lib.hid (wString b b (Lib.byteCells acc) (r ++ (⟨#[10]⟩ : ByteArray)) wr hi1 (by rw [Lib.byteCells_length, hxs]; omega) (by omega))
          clear hfo2 hxl hxs hfo hi1
          go_wp2_with fail
          refine Hw1.out.mono ?_
          rintro e w4 ⟨rfl, hI4, hB4, hO4⟩
          have hI5 : IsB b b (Lib.byteCells (foldT s.data.toList)) w4 := by
            rw [← Hfo2.out, Lib.byteCells_append, ← HXL.out]; exact hI4
          have hbw4 := hI5.lt
          have HB4 := Lib.hid (hBw.out.trans (hB4.mono hbw))
          have Hw2 := Lib.hid (bString b b _ w4 hI5 (by omega))
          clear hI4 hI5 hB4 hO4 Hw1 hI hBw
          go_wp2_with fail
          refine Hw2.out.mono ?_
          rintro e w5 ⟨rfl, hI6, hB6, hO6⟩
          have HB6 := Lib.hid (HB4.out.trans (hB6.mono hbw))
          clear hI6 hB6 hO6 Hw2 HB4
          go_wp2
          go_ret2
          exact ⟨by rw [Hv.out]; rfl, HB6.out⟩

end Go.Proofs.YtbocflglknkiaaaGreatDoor
