/- fold: readItem, ReadItem. -/
import Derived.Test.YtbocflglknkiaaaGreatDoorFoldB
import Derived.Test.YtbocflglknkiaaaGreatDoorHeld
namespace Go.Proofs.YtbocflglknkiaaaGreatDoor
open Go.RowKit Go.Shelf

theorem cut_any (G : Nat → Addr) (s sep : ByteArray) (hs : s.size < 4294967281) (w : World) (hE : Env G w) :
    Calls Tryz.prog 43 #[.string s, .string sep] w fun e w' => e = .returned (.tuple #[.string ⟨(Lib.cut s.data.toList sep.data.toList).1.toArray⟩, .string ⟨(Lib.cut s.data.toList sep.data.toList).2.1.toArray⟩, .bool (Lib.cut s.data.toList sep.data.toList).2.2]) ∧ Below w.heap.size w w' := by
  obtain ⟨m, hm⟩ := hE.maxLen
  refine (Tryz.strings_Cut s sep m w hs hm).mono ?_
  rintro e w1 ⟨rfl, n, rfl⟩
  exact ⟨rfl, bdrew (Below.refl _ _) n⟩
theorem first_two (row : Int) (b1 b2 : Bool) (a1 a2 : Addr) (w : World) :
    Calls Tryz.prog 17 #[.int .i64 row, .slice (some ⟨w.heap.size, 0, none⟩) 2 2] (w.alloc (.cells #[.bool b1, .iface 159 (.pointer (some a1)), .bool b2, .iface 159 (.pointer (some a2))] 42))
      fun e w' => e = .returned (firstV row [(b1, a1), (b2, a2)]) ∧ Below (w.alloc (.cells #[.bool b1, .iface 159 (.pointer (some a1)), .bool b2, .iface 159 (.pointer (some a2))] 42)).heap.size (w.alloc (.cells #[.bool b1, .iface 159 (.pointer (some a1)), .bool b2, .iface 159 (.pointer (some a2))] 42)) w' :=
  first_any row w.heap.size [(b1, a1), (b2, a2)] _ (by simp) (by simp) (fun i h => by
    rcases i with _ | _ | i
    · simp
    · simp
    · simp at h; omega)
theorem first_one (row : Int) (b1 : Bool) (a1 : Addr) (w : World) :
    Calls Tryz.prog 17 #[.int .i64 row, .slice (some ⟨w.heap.size, 0, none⟩) 1 1] (w.alloc (.cells #[.bool b1, .iface 159 (.pointer (some a1))] 42))
      fun e w' => e = .returned (firstV row [(b1, a1)]) ∧ Below (w.alloc (.cells #[.bool b1, .iface 159 (.pointer (some a1))] 42)).heap.size (w.alloc (.cells #[.bool b1, .iface 159 (.pointer (some a1))] 42)) w' :=
  first_any row w.heap.size [(b1, a1)] _ (by simp) (by simp) (fun i h => by
    rcases i with _ | i
    · simp
    · simp at h)

/-- What is read of a line: a name and a value, or which error. -/
inductive RI where
  | ok (n v : List UInt8)
  | bad (g : Nat)
def readL (s : List UInt8) : RI :=
  if (Lib.cut s [58]).2.2 = false ∨ (Lib.cut s [58]).1 = [] then .bad 2
  else if Lib.hasPrefix (Lib.cut s [58]).2.1 [60] then .bad 3
  else if Lib.hasPrefix (Lib.cut s [58]).2.1 [58] then
    match unbaseL ⟨(Lib.trimLeftB (Lib.trimPrefix (Lib.cut s [58]).2.1 [58]) 32).toArray⟩ with
    | some v => .ok (Lib.cut s [58]).1 v
    | none => .bad 2
  else if isSafeL (Lib.trimLeftB (Lib.cut s [58]).2.1 32) then .ok (Lib.cut s [58]).1 (Lib.trimLeftB (Lib.cut s [58]).2.1 32)
  else .bad 2
def riE (G : Nat → Addr) : RI → Value
  | .ok n v => .tuple #[.string ⟨n.toArray⟩, .string ⟨v.toArray⟩, .nilIface]
  | .bad g => .tuple #[.string ⟨#[]⟩, .string ⟨#[]⟩, .iface 54 (.agg #[.int .i64 0, .iface 159 (.pointer (some (G g)))])]

theorem trimLeftB_le (l : List UInt8) (c : UInt8) : (Lib.trimLeftB l c).length ≤ l.length := (List.dropWhile_sublist _).length_le
set_option maxHeartbeats 8000000 in
theorem readItem_any (G : Nat → Addr) (s : ByteArray) (hs : s.size ≤ 1000000) (w : World) (hE : Env G w) :
    Calls Tryz.prog 26 #[.string s] w fun e w' => e = .returned (riE G (readL s.data.toList)) ∧ Below w.heap.size w w' := by
  have hcut := cut_any G s ⟨#[58]⟩ (by omega) w hE
  obtain ⟨r, hr⟩ : ∃ r, r = readL s.data.toList := ⟨_, rfl⟩
  rw [← hr]
  unfold readL at hr
  simp only at hcut
  obtain ⟨nm, hnm⟩ : ∃ nm, nm = (Lib.cut s.data.toList [58]).1 := ⟨_, rfl⟩
  obtain ⟨rs, hrs⟩ : ∃ rs, rs = (Lib.cut s.data.toList [58]).2.1 := ⟨_, rfl⟩
  obtain ⟨ok, hok⟩ : ∃ ok, ok = (Lib.cut s.data.toList [58]).2.2 := ⟨_, rfl⟩
  rw [← hnm, ← hrs, ← hok] at hr hcut
  have hrl : rs.length ≤ s.size := by
    have h8 : s.data.toList.length = s.size := by simp
    rw [hrs, ← h8]
    unfold Lib.cut
    split <;> simp
  have Hcut := Lib.hid hcut
  clear hcut hnm hrs hok
  have hpf : ∀ W, Calls Tryz.prog 36 #[.string ⟨rs.toArray⟩, .string ⟨#[60]⟩] W fun e w' => e = .returned (.bool (Lib.hasPrefix rs [60])) ∧ Below W.heap.size W w' := fun W => (Tryz.strings_HasPrefix ⟨rs.toArray⟩ ⟨#[60]⟩ W).mono fun e w' h => ⟨h.1, by rw [h.2]; exact Below.refl _ _⟩

  have Hpf := Lib.hid hpf
  clear hpf
  by_cases h1 : ok = false ∨ nm = []
  · rw [if_pos h1] at hr
    have Hr := Lib.hid hr
    clear hr
    cases ok with
    | false =>
      clear h1
      go_enter Tryz.func26, Tryz.ntmps26
      go_wp2_with fail
      refine Hcut.out.mono ?_
      rintro e w1 ⟨rfl, hB1⟩
      have hE1 := hE.below hB1
      have hs2 := hE1.s_fold_errItem.cell
      have hs3 := hE1.s_fold_errUrl.cell
      go_wp2_with fail
      refine wp_region_held_drew (S := fun W => W.cell? ⟨2, 0, none⟩ = some (.iface 159 (.pointer (some (G 2)))) ∧ W.cell? ⟨3, 0, none⟩ = some (.iface 159 (.pointer (some (G 3)))) ∧ Below w1.heap.size w1 W) (by kernel_rfl) (held2_drew ⟨hs2, hs3, Below.refl _ _⟩) (fun hHeld => ?_)
      refine wpAnyH_take (i := 0) (oi := ?_) (v := ?_) ?_ ?_ ?_ ?_ ?_ ?_ ?_ ?_; rotate_left 2; rfl; kernel_rfl; kernel_rfl; kernel_rfl; exact (fun _ _ _ h => h)
      · (refine Or.inl ⟨by rfl, ?_⟩; intro w hSw; (try dsimp only at hSw); go_simp; try (with_reducible rfl))
      · assumption
      try simp only [Act.put, List.setIfInBounds_toArray]
      refine wpAnyH_take (i := 1) (oi := ?_) (v := ?_) ?_ ?_ ?_ ?_ ?_ ?_ ?_ ?_; rotate_left 2; rfl; kernel_rfl; kernel_rfl; kernel_rfl; exact (fun _ _ _ h => h)
      · (refine Or.inl ⟨by rfl, ?_⟩; intro w hSw; (try dsimp only at hSw); go_simp; try (with_reducible rfl))
      · assumption
      try simp only [Act.put]
      refine wpAnyH_take (i := 2) (oi := ?_) (v := ?_) ?_ ?_ ?_ ?_ ?_ ?_ ?_ ?_; rotate_left 2; rfl; kernel_rfl; kernel_rfl; kernel_rfl; exact (fun _ _ _ h => h)
      · (refine Or.inl ⟨by rfl, ?_⟩; intro w hSw; (try dsimp only at hSw); go_simp; try (with_reducible rfl))
      · assumption
      try simp only [Act.put]
      refine wpAnyH_take (i := 3) (oi := ?_) (v := undef) ?_ ?_ ?_ ?_ ?_ ?_ ?_ ?_; rotate_left 1; rfl; kernel_rfl; kernel_rfl; kernel_rfl; exact (fun _ _ _ h => h)
      · exact Or.inr ⟨by rfl, rfl⟩
      · assumption
      try simp only [Act.put]
      refine wpAnyH_take (i := 4) (oi := ?_) (v := undef) ?_ ?_ ?_ ?_ ?_ ?_ ?_ ?_; rotate_left 1; rfl; kernel_rfl; kernel_rfl; kernel_rfl; exact (fun _ _ _ h => h)
      · exact Or.inr ⟨by rfl, rfl⟩
      · assumption
      try simp only [Act.put]
      refine wpAnyH_take (i := 5) (oi := ?_) (v := ?_) ?_ ?_ ?_ ?_ ?_ ?_ ?_ ?_; rotate_left 2; rfl; kernel_rfl; kernel_rfl; kernel_rfl; exact (fun _ _ _ h => h)
      · (refine Or.inl ⟨by rfl, ?_⟩; intro w hSw; (try dsimp only at hSw); go_simp; try (with_reducible rfl))
      · assumption
      try simp only [Act.put]
      refine wpAnyH_take (i := 6) (oi := ?_) (v := ?_) ?_ ?_ ?_ ?_ ?_ ?_ ?_ ?_; rotate_left 2; rfl; kernel_rfl; kernel_rfl; kernel_rfl; exact (fun _ _ _ h => h)
      · (refine Or.inl ⟨by rfl, ?_⟩; intro w hSw; (try dsimp only at hSw); go_simp; try (with_reducible rfl))
      · assumption
      try simp only [Act.put]
      refine wpAnyH_take (i := 7) (oi := ?_) (v := ?_) ?_ ?_ ?_ ?_ ?_ ?_ ?_ ?_; rotate_left 2; rfl; kernel_rfl; kernel_rfl; kernel_rfl; exact (fun _ _ _ h => h)
      · (refine Or.inl ⟨by rfl, ?_⟩; intro w hSw; (try dsimp only at hSw); go_simp; try (with_reducible rfl))
      · assumption
      try simp only [Act.put]
      refine wpAnyH_take (i := 8) (oi := ?_) (v := ?_) ?_ ?_ ?_ ?_ ?_ ?_ ?_ ?_; rotate_left 2; rfl; kernel_rfl; kernel_rfl; kernel_rfl; exact (fun _ _ _ h => h)
      · (refine Or.inl ⟨by rfl, ?_⟩; intro w hSw; (try dsimp only at hSw); go_simp; try (with_reducible rfl))
      · assumption
      try simp only [Act.put]
      refine wpAnyH_take (i := 10) (oi := ?_) (v := ?_) ?_ ?_ ?_ ?_ ?_ ?_ ?_ ?_; rotate_left 2; rfl; kernel_rfl; kernel_rfl; kernel_rfl; exact (fun _ _ _ h => h)
      · (refine Or.inl ⟨by rfl, ?_⟩; intro w hSw; (try dsimp only at hSw); go_simp; try (with_reducible rfl))
      · assumption
      try simp only [Act.put]
      refine wpAnyH_ready (rs := [9]) (by kernel_rfl) (by simp) ?_
      refine AllReadyH.cons (o := ?_) ?_ ?_ AllReadyH.nil; rotate_left 1; rfl
      intro K hK
      go_simp
      refine (Hpf.out _).mono ?_
      rintro e w2 ⟨rfl, hb⟩
      try (go_wp2_with fail)
      refine hK.out _ _ (held2_below hHeld (Nat.le_refl _) hb) (fun hHeld => ?_)
      clear hK K
      try simp only [Act.put, List.setIfInBounds_toArray, List.set_cons_zero, List.set_cons_succ]
      refine wpAnyH_take (i := 11) (oi := ?_) (v := ?_) ?_ ?_ ?_ ?_ ?_ ?_ ?_ ?_; rotate_left 2; rfl; kernel_rfl; kernel_rfl; kernel_rfl; exact (fun _ _ _ h => h)
      · (refine Or.inl ⟨by rfl, ?_⟩; intro w hSw; (try dsimp only at hSw); go_simp; try (with_reducible rfl))
      · assumption
      try simp only [Act.put, List.setIfInBounds_toArray]
      refine wpAnyH_ready (rs := [12]) (by kernel_rfl) (by simp) ?_
      refine AllReadyH.cons (o := ?_) ?_ ?_ AllReadyH.nil; rotate_left 1; rfl
      intro K hK
      go_simp
      refine hK.out _ _ (held2_alloc hHeld (Nat.le_refl _) _) (fun hHeld => ?_)
      clear hK K
      try simp only [Act.put, List.setIfInBounds_toArray, List.set_cons_zero, List.set_cons_succ]
      refine wpAnyH_ready (rs := [13]) (by kernel_rfl) (by simp) ?_
      refine AllReadyH.cons (o := ?_) ?_ ?_ AllReadyH.nil; rotate_left 1; rfl
      intro K hK
      go_simp
      refine (first_two _ _ _ _ _ _).mono ?_
      rintro e w3 ⟨rfl, hb3⟩
      try (go_wp2_with fail)
      refine hK.out _ _ (held2_below hHeld (Nat.le_refl _) hb3) (fun hHeld => ?_)
      clear hK K
      try simp only [Act.put, List.setIfInBounds_toArray, List.set_cons_zero, List.set_cons_succ]
      refine wpAnyH_take (i := 14) (oi := ?_) (v := ?_) ?_ ?_ ?_ ?_ ?_ ?_ ?_ ?_; rotate_left 2; rfl; kernel_rfl; kernel_rfl; kernel_rfl; exact (fun _ _ _ h => h)
      · (refine Or.inl ⟨by rfl, ?_⟩; intro w hSw; (try dsimp only at hSw); go_simp; try (with_reducible rfl))
      · assumption
      try simp only [Act.put, List.setIfInBounds_toArray]
      refine wpAnyH_done (by kernel_rfl) ?_ _
      obtain ⟨hk2, hk3, hB3⟩ := hHeld
      clear hs2 hs3
      simp only [firstV, if_true]
      go_wp2
      go_ret3
      refine ⟨?_, hB1.trans (hB3.mono hB1.size)⟩
      rw [Hr.out]
      rfl

    | true =>
      obtain rfl : nm = [] := by simpa using h1
      clear h1
      go_enter Tryz.func26, Tryz.ntmps26
      go_wp2_with fail
      refine Hcut.out.mono ?_
      rintro e w1 ⟨rfl, hB1⟩
      have hE1 := hE.below hB1
      have hs2 := hE1.s_fold_errItem.cell
      have hs3 := hE1.s_fold_errUrl.cell
      go_wp2_with fail
      refine wp_region_held_drew (S := fun W => W.cell? ⟨2, 0, none⟩ = some (.iface 159 (.pointer (some (G 2)))) ∧ W.cell? ⟨3, 0, none⟩ = some (.iface 159 (.pointer (some (G 3)))) ∧ Below w1.heap.size w1 W) (by kernel_rfl) (held2_drew ⟨hs2, hs3, Below.refl _ _⟩) (fun hHeld => ?_)
      refine wpAnyH_take (i := 0) (oi := ?_) (v := ?_) ?_ ?_ ?_ ?_ ?_ ?_ ?_ ?_; rotate_left 2; rfl; kernel_rfl; kernel_rfl; kernel_rfl; exact (fun _ _ _ h => h)
      · (refine Or.inl ⟨by rfl, ?_⟩; intro w hSw; (try dsimp only at hSw); go_simp; try (with_reducible rfl))
      · assumption
      try simp only [Act.put, List.setIfInBounds_toArray]
      refine wpAnyH_take (i := 1) (oi := ?_) (v := ?_) ?_ ?_ ?_ ?_ ?_ ?_ ?_ ?_; rotate_left 2; rfl; kernel_rfl; kernel_rfl; kernel_rfl; exact (fun _ _ _ h => h)
      · (refine Or.inl ⟨by rfl, ?_⟩; intro w hSw; (try dsimp only at hSw); go_simp; try (with_reducible rfl))
      · assumption
      try simp only [Act.put]
      refine wpAnyH_take (i := 2) (oi := ?_) (v := ?_) ?_ ?_ ?_ ?_ ?_ ?_ ?_ ?_; rotate_left 2; rfl; kernel_rfl; kernel_rfl; kernel_rfl; exact (fun _ _ _ h => h)
      · (refine Or.inl ⟨by rfl, ?_⟩; intro w hSw; (try dsimp only at hSw); go_simp; try (with_reducible rfl))
      · assumption
      try simp only [Act.put]
      refine wpAnyH_take (i := 3) (oi := ?_) (v := ?_) ?_ ?_ ?_ ?_ ?_ ?_ ?_ ?_; rotate_left 2; rfl; kernel_rfl; kernel_rfl; kernel_rfl; exact (fun _ _ _ h => h)
      · (refine Or.inl ⟨by rfl, ?_⟩; intro w hSw; (try dsimp only at hSw); go_simp; try (with_reducible rfl))
      · assumption
      try simp only [Act.put]
      refine wpAnyH_take (i := 4) (oi := ?_) (v := ?_) ?_ ?_ ?_ ?_ ?_ ?_ ?_ ?_; rotate_left 2; rfl; kernel_rfl; kernel_rfl; kernel_rfl; exact (fun _ _ _ h => h)
      · (refine Or.inl ⟨by rfl, ?_⟩; intro w hSw; (try dsimp only at hSw); go_simp; try (with_reducible rfl))
      · assumption
      try simp only [Act.put]
      refine wpAnyH_take (i := 5) (oi := ?_) (v := ?_) ?_ ?_ ?_ ?_ ?_ ?_ ?_ ?_; rotate_left 2; rfl; kernel_rfl; kernel_rfl; kernel_rfl; exact (fun _ _ _ h => h)
      · (refine Or.inl ⟨by rfl, ?_⟩; intro w hSw; (try dsimp only at hSw); go_simp; try (with_reducible rfl))
      · assumption
      try simp only [Act.put]
      refine wpAnyH_take (i := 6) (oi := ?_) (v := ?_) ?_ ?_ ?_ ?_ ?_ ?_ ?_ ?_; rotate_left 2; rfl; kernel_rfl; kernel_rfl; kernel_rfl; exact (fun _ _ _ h => h)
      · (refine Or.inl ⟨by rfl, ?_⟩; intro w hSw; (try dsimp only at hSw); go_simp; try (with_reducible rfl))
      · assumption
      try simp only [Act.put]
      refine wpAnyH_take (i := 7) (oi := ?_) (v := ?_) ?_ ?_ ?_ ?_ ?_ ?_ ?_ ?_; rotate_left 2; rfl; kernel_rfl; kernel_rfl; kernel_rfl; exact (fun _ _ _ h => h)
      · (refine Or.inl ⟨by rfl, ?_⟩; intro w hSw; (try dsimp only at hSw); go_simp; try (with_reducible rfl))
      · assumption
      try simp only [Act.put]
      refine wpAnyH_take (i := 8) (oi := ?_) (v := ?_) ?_ ?_ ?_ ?_ ?_ ?_ ?_ ?_; rotate_left 2; rfl; kernel_rfl; kernel_rfl; kernel_rfl; exact (fun _ _ _ h => h)
      · (refine Or.inl ⟨by rfl, ?_⟩; intro w hSw; (try dsimp only at hSw); go_simp; try (with_reducible rfl))
      · assumption
      try simp only [Act.put]
      refine wpAnyH_take (i := 10) (oi := ?_) (v := ?_) ?_ ?_ ?_ ?_ ?_ ?_ ?_ ?_; rotate_left 2; rfl; kernel_rfl; kernel_rfl; kernel_rfl; exact (fun _ _ _ h => h)
      · (refine Or.inl ⟨by rfl, ?_⟩; intro w hSw; (try dsimp only at hSw); go_simp; try (with_reducible rfl))
      · assumption
      try simp only [Act.put]
      refine wpAnyH_ready (rs := [9]) (by kernel_rfl) (by simp) ?_
      refine AllReadyH.cons (o := ?_) ?_ ?_ AllReadyH.nil; rotate_left 1; rfl
      intro K hK
      go_simp
      refine (Hpf.out _).mono ?_
      rintro e w2 ⟨rfl, hb⟩
      try (go_wp2_with fail)
      refine hK.out _ _ (held2_below hHeld (Nat.le_refl _) hb) (fun hHeld => ?_)
      clear hK K
      try simp only [Act.put, List.setIfInBounds_toArray, List.set_cons_zero, List.set_cons_succ]
      refine wpAnyH_take (i := 11) (oi := ?_) (v := ?_) ?_ ?_ ?_ ?_ ?_ ?_ ?_ ?_; rotate_left 2; rfl; kernel_rfl; kernel_rfl; kernel_rfl; exact (fun _ _ _ h => h)
      · (refine Or.inl ⟨by rfl, ?_⟩; intro w hSw; (try dsimp only at hSw); go_simp; try (with_reducible rfl))
      · assumption
      try simp only [Act.put, List.setIfInBounds_toArray]
      refine wpAnyH_ready (rs := [12]) (by kernel_rfl) (by simp) ?_
      refine AllReadyH.cons (o := ?_) ?_ ?_ AllReadyH.nil; rotate_left 1; rfl
      intro K hK
      go_simp
      refine hK.out _ _ (held2_alloc hHeld (Nat.le_refl _) _) (fun hHeld => ?_)
      clear hK K
      try simp only [Act.put, List.setIfInBounds_toArray, List.set_cons_zero, List.set_cons_succ]
      refine wpAnyH_ready (rs := [13]) (by kernel_rfl) (by simp) ?_
      refine AllReadyH.cons (o := ?_) ?_ ?_ AllReadyH.nil; rotate_left 1; rfl
      intro K hK
      go_simp
      refine (first_two _ _ _ _ _ _).mono ?_
      rintro e w3 ⟨rfl, hb3⟩
      try (go_wp2_with fail)
      refine hK.out _ _ (held2_below hHeld (Nat.le_refl _) hb3) (fun hHeld => ?_)
      clear hK K
      try simp only [Act.put, List.setIfInBounds_toArray, List.set_cons_zero, List.set_cons_succ]
      refine wpAnyH_take (i := 14) (oi := ?_) (v := ?_) ?_ ?_ ?_ ?_ ?_ ?_ ?_ ?_; rotate_left 2; rfl; kernel_rfl; kernel_rfl; kernel_rfl; exact (fun _ _ _ h => h)
      · (refine Or.inl ⟨by rfl, ?_⟩; intro w hSw; (try dsimp only at hSw); go_simp; try (with_reducible rfl))
      · assumption
      try simp only [Act.put, List.setIfInBounds_toArray]
      refine wpAnyH_done (by kernel_rfl) ?_ _
      obtain ⟨hk2, hk3, hB3⟩ := hHeld
      clear hs2 hs3
      simp only [firstV, if_true]
      go_wp2
      go_ret3
      refine ⟨?_, hB1.trans (hB3.mono hB1.size)⟩
      rw [Hr.out]
      rfl

  · rw [if_neg h1] at hr
    obtain rfl : ok = true := by
      cases ok
      · exact absurd (Or.inl rfl) h1
      · rfl
    have hnn : nm ≠ [] := fun h => h1 (Or.inr h)
    have hne : (nm == []) = false := by simpa using hnn
    have hne2 : nm.isEmpty = false := by simpa using hnn
    clear h1 hnn
    by_cases h2 : Lib.hasPrefix rs [60] = true
    · rw [if_pos h2] at hr
      have Hr := Lib.hid hr
      rw [h2] at Hpf
      clear hr h2
      go_enter Tryz.func26, Tryz.ntmps26
      go_wp2_with fail
      refine Hcut.out.mono ?_
      rintro e w1 ⟨rfl, hB1⟩
      have hE1 := hE.below hB1
      have hs2 := hE1.s_fold_errItem.cell
      have hs3 := hE1.s_fold_errUrl.cell
      go_wp2_with fail
      refine wp_region_held_drew (S := fun W => W.cell? ⟨2, 0, none⟩ = some (.iface 159 (.pointer (some (G 2)))) ∧ W.cell? ⟨3, 0, none⟩ = some (.iface 159 (.pointer (some (G 3)))) ∧ Below w1.heap.size w1 W) (by kernel_rfl) (held2_drew ⟨hs2, hs3, Below.refl _ _⟩) (fun hHeld => ?_)
      refine wpAnyH_take (i := 0) (oi := ?_) (v := ?_) ?_ ?_ ?_ ?_ ?_ ?_ ?_ ?_; rotate_left 2; rfl; kernel_rfl; kernel_rfl; kernel_rfl; exact (fun _ _ _ h => h)
      · (refine Or.inl ⟨by rfl, ?_⟩; intro w hSw; (try dsimp only at hSw); go_simp; try (with_reducible rfl))
      · assumption
      try simp only [Act.put, List.setIfInBounds_toArray]
      refine wpAnyH_take (i := 1) (oi := ?_) (v := ?_) ?_ ?_ ?_ ?_ ?_ ?_ ?_ ?_; rotate_left 2; rfl; kernel_rfl; kernel_rfl; kernel_rfl; exact (fun _ _ _ h => h)
      · (refine Or.inl ⟨by rfl, ?_⟩; intro w hSw; (try dsimp only at hSw); go_simp; try (with_reducible rfl))
      · assumption
      try simp only [Act.put]
      refine wpAnyH_take (i := 2) (oi := ?_) (v := ?_) ?_ ?_ ?_ ?_ ?_ ?_ ?_ ?_; rotate_left 2; rfl; kernel_rfl; kernel_rfl; kernel_rfl; exact (fun _ _ _ h => h)
      · (refine Or.inl ⟨by rfl, ?_⟩; intro w hSw; (try dsimp only at hSw); go_simp; try (with_reducible rfl))
      · assumption
      try simp only [Act.put]
      refine wpAnyH_take (i := 3) (oi := ?_) (v := ?_) ?_ ?_ ?_ ?_ ?_ ?_ ?_ ?_; rotate_left 2; rfl; kernel_rfl; kernel_rfl; kernel_rfl; exact (fun _ _ _ h => h)
      · (refine Or.inl ⟨by rfl, ?_⟩; intro w hSw; (try dsimp only at hSw); go_simp; try (with_reducible rfl))
      · assumption
      try simp only [Act.put]
      refine wpAnyH_take (i := 4) (oi := ?_) (v := ?_) ?_ ?_ ?_ ?_ ?_ ?_ ?_ ?_; rotate_left 2; rfl; kernel_rfl; kernel_rfl; kernel_rfl; exact (fun _ _ _ h => h)
      · (refine Or.inl ⟨by rfl, ?_⟩; intro w hSw; (try dsimp only at hSw); go_simp; try (with_reducible rfl))
      · assumption
      try simp only [Act.put]
      refine wpAnyH_take (i := 5) (oi := ?_) (v := ?_) ?_ ?_ ?_ ?_ ?_ ?_ ?_ ?_; rotate_left 2; rfl; kernel_rfl; kernel_rfl; kernel_rfl; exact (fun _ _ _ h => h)
      · (refine Or.inl ⟨by rfl, ?_⟩; intro w hSw; (try dsimp only at hSw); go_simp; try (with_reducible rfl))
      · assumption
      try simp only [Act.put]
      refine wpAnyH_take (i := 6) (oi := ?_) (v := ?_) ?_ ?_ ?_ ?_ ?_ ?_ ?_ ?_; rotate_left 2; rfl; kernel_rfl; kernel_rfl; kernel_rfl; exact (fun _ _ _ h => h)
      · (refine Or.inl ⟨by rfl, ?_⟩; intro w hSw; (try dsimp only at hSw); go_simp; try (with_reducible rfl))
      · assumption
      try simp only [Act.put]
      refine wpAnyH_take (i := 7) (oi := ?_) (v := ?_) ?_ ?_ ?_ ?_ ?_ ?_ ?_ ?_; rotate_left 2; rfl; kernel_rfl; kernel_rfl; kernel_rfl; exact (fun _ _ _ h => h)
      · (refine Or.inl ⟨by rfl, ?_⟩; intro w hSw; (try dsimp only at hSw); go_simp; try (with_reducible rfl))
      · assumption
      try simp only [Act.put]
      refine wpAnyH_take (i := 8) (oi := ?_) (v := ?_) ?_ ?_ ?_ ?_ ?_ ?_ ?_ ?_; rotate_left 2; rfl; kernel_rfl; kernel_rfl; kernel_rfl; exact (fun _ _ _ h => h)
      · (refine Or.inl ⟨by rfl, ?_⟩; intro w hSw; (try dsimp only at hSw); go_simp; try (with_reducible rfl))
      · assumption
      try simp only [Act.put]
      refine wpAnyH_take (i := 10) (oi := ?_) (v := ?_) ?_ ?_ ?_ ?_ ?_ ?_ ?_ ?_; rotate_left 2; rfl; kernel_rfl; kernel_rfl; kernel_rfl; exact (fun _ _ _ h => h)
      · (refine Or.inl ⟨by rfl, ?_⟩; intro w hSw; (try dsimp only at hSw); go_simp; try (with_reducible rfl))
      · assumption
      try simp only [Act.put]
      refine wpAnyH_ready (rs := [9]) (by kernel_rfl) (by simp) ?_
      refine AllReadyH.cons (o := ?_) ?_ ?_ AllReadyH.nil; rotate_left 1; rfl
      intro K hK
      go_simp
      refine (Hpf.out _).mono ?_
      rintro e w2 ⟨rfl, hb⟩
      try (go_wp2_with fail)
      refine hK.out _ _ (held2_below hHeld (Nat.le_refl _) hb) (fun hHeld => ?_)
      clear hK K
      try simp only [Act.put, List.setIfInBounds_toArray, List.set_cons_zero, List.set_cons_succ]
      refine wpAnyH_take (i := 11) (oi := ?_) (v := ?_) ?_ ?_ ?_ ?_ ?_ ?_ ?_ ?_; rotate_left 2; rfl; kernel_rfl; kernel_rfl; kernel_rfl; exact (fun _ _ _ h => h)
      · (refine Or.inl ⟨by rfl, ?_⟩; intro w hSw; (try dsimp only at hSw); go_simp; try (with_reducible rfl))
      · assumption
      try simp only [Act.put, List.setIfInBounds_toArray]
      refine wpAnyH_ready (rs := [12]) (by kernel_rfl) (by simp) ?_
      refine AllReadyH.cons (o := ?_) ?_ ?_ AllReadyH.nil; rotate_left 1; rfl
      intro K hK
      go_simp
      refine hK.out _ _ (held2_alloc hHeld (Nat.le_refl _) _) (fun hHeld => ?_)
      clear hK K
      try simp only [Act.put, List.setIfInBounds_toArray, List.set_cons_zero, List.set_cons_succ]
      refine wpAnyH_ready (rs := [13]) (by kernel_rfl) (by simp) ?_
      refine AllReadyH.cons (o := ?_) ?_ ?_ AllReadyH.nil; rotate_left 1; rfl
      intro K hK
      go_simp
      refine (first_two _ _ _ _ _ _).mono ?_
      rintro e w3 ⟨rfl, hb3⟩
      try (go_wp2_with fail)
      refine hK.out _ _ (held2_below hHeld (Nat.le_refl _) hb3) (fun hHeld => ?_)
      clear hK K
      try simp only [Act.put, List.setIfInBounds_toArray, List.set_cons_zero, List.set_cons_succ]
      refine wpAnyH_take (i := 14) (oi := ?_) (v := ?_) ?_ ?_ ?_ ?_ ?_ ?_ ?_ ?_; rotate_left 2; rfl; kernel_rfl; kernel_rfl; kernel_rfl; exact (fun _ _ _ h => h)
      · (refine Or.inl ⟨by rfl, ?_⟩; intro w hSw; (try dsimp only at hSw); go_simp; try (with_reducible rfl))
      · assumption
      try simp only [Act.put, List.setIfInBounds_toArray]
      refine wpAnyH_done (by kernel_rfl) ?_ _
      obtain ⟨hk2, hk3, hB3⟩ := hHeld
      clear hs2 hs3
      simp only [firstV, if_true, Bool.false_eq_true, if_false]
      go_wp2
      go_ret3
      refine ⟨?_, hB1.trans (hB3.mono hB1.size)⟩
      rw [Hr.out]
      rfl

    · rw [if_neg h2] at hr
      rw [Bool.not_eq_true] at h2
      rw [h2] at Hpf
      clear h2

      go_enter Tryz.func26, Tryz.ntmps26
      go_wp2_with fail
      refine Hcut.out.mono ?_
      rintro e w1 ⟨rfl, hB1⟩
      have hE1 := hE.below hB1
      have hs2 := hE1.s_fold_errItem.cell
      have hs3 := hE1.s_fold_errUrl.cell
      go_wp2_with fail
      refine wp_region_held_drew (S := fun W => W.cell? ⟨2, 0, none⟩ = some (.iface 159 (.pointer (some (G 2)))) ∧ W.cell? ⟨3, 0, none⟩ = some (.iface 159 (.pointer (some (G 3)))) ∧ Below w1.heap.size w1 W) (by kernel_rfl) (held2_drew ⟨hs2, hs3, Below.refl _ _⟩) (fun hHeld => ?_)
      refine wpAnyH_take (i := 0) (oi := ?_) (v := ?_) ?_ ?_ ?_ ?_ ?_ ?_ ?_ ?_; rotate_left 2; rfl; kernel_rfl; kernel_rfl; kernel_rfl; exact (fun _ _ _ h => h)
      · (refine Or.inl ⟨by rfl, ?_⟩; intro w hSw; (try dsimp only at hSw); go_simp; try (with_reducible rfl))
      · assumption
      try simp only [Act.put, List.setIfInBounds_toArray]
      refine wpAnyH_take (i := 1) (oi := ?_) (v := ?_) ?_ ?_ ?_ ?_ ?_ ?_ ?_ ?_; rotate_left 2; rfl; kernel_rfl; kernel_rfl; kernel_rfl; exact (fun _ _ _ h => h)
      · (refine Or.inl ⟨by rfl, ?_⟩; intro w hSw; (try dsimp only at hSw); go_simp; try (with_reducible rfl))
      · assumption
      try simp only [Act.put]
      refine wpAnyH_take (i := 2) (oi := ?_) (v := ?_) ?_ ?_ ?_ ?_ ?_ ?_ ?_ ?_; rotate_left 2; rfl; kernel_rfl; kernel_rfl; kernel_rfl; exact (fun _ _ _ h => h)
      · (refine Or.inl ⟨by rfl, ?_⟩; intro w hSw; (try dsimp only at hSw); go_simp; try (with_reducible rfl))
      · assumption
      try simp only [Act.put]
      refine wpAnyH_take (i := 3) (oi := ?_) (v := ?_) ?_ ?_ ?_ ?_ ?_ ?_ ?_ ?_; rotate_left 2; rfl; kernel_rfl; kernel_rfl; kernel_rfl; exact (fun _ _ _ h => h)
      · (refine Or.inl ⟨by rfl, ?_⟩; intro w hSw; (try dsimp only at hSw); go_simp; try (with_reducible rfl))
      · assumption
      try simp only [Act.put]
      refine wpAnyH_take (i := 4) (oi := ?_) (v := ?_) ?_ ?_ ?_ ?_ ?_ ?_ ?_ ?_; rotate_left 2; rfl; kernel_rfl; kernel_rfl; kernel_rfl; exact (fun _ _ _ h => h)
      · (refine Or.inl ⟨by rfl, ?_⟩; intro w hSw; (try dsimp only at hSw); go_simp; try (with_reducible rfl))
      · assumption
      try simp only [Act.put]
      refine wpAnyH_take (i := 5) (oi := ?_) (v := ?_) ?_ ?_ ?_ ?_ ?_ ?_ ?_ ?_; rotate_left 2; rfl; kernel_rfl; kernel_rfl; kernel_rfl; exact (fun _ _ _ h => h)
      · (refine Or.inl ⟨by rfl, ?_⟩; intro w hSw; (try dsimp only at hSw); go_simp; try (with_reducible rfl))
      · assumption
      try simp only [Act.put]
      refine wpAnyH_take (i := 6) (oi := ?_) (v := ?_) ?_ ?_ ?_ ?_ ?_ ?_ ?_ ?_; rotate_left 2; rfl; kernel_rfl; kernel_rfl; kernel_rfl; exact (fun _ _ _ h => h)
      · (refine Or.inl ⟨by rfl, ?_⟩; intro w hSw; (try dsimp only at hSw); go_simp; try (with_reducible rfl))
      · assumption
      try simp only [Act.put]
      refine wpAnyH_take (i := 7) (oi := ?_) (v := ?_) ?_ ?_ ?_ ?_ ?_ ?_ ?_ ?_; rotate_left 2; rfl; kernel_rfl; kernel_rfl; kernel_rfl; exact (fun _ _ _ h => h)
      · (refine Or.inl ⟨by rfl, ?_⟩; intro w hSw; (try dsimp only at hSw); go_simp; try (with_reducible rfl))
      · assumption
      try simp only [Act.put]
      refine wpAnyH_take (i := 8) (oi := ?_) (v := ?_) ?_ ?_ ?_ ?_ ?_ ?_ ?_ ?_; rotate_left 2; rfl; kernel_rfl; kernel_rfl; kernel_rfl; exact (fun _ _ _ h => h)
      · (refine Or.inl ⟨by rfl, ?_⟩; intro w hSw; (try dsimp only at hSw); go_simp; try (with_reducible rfl))
      · assumption
      try simp only [Act.put]
      refine wpAnyH_take (i := 10) (oi := ?_) (v := ?_) ?_ ?_ ?_ ?_ ?_ ?_ ?_ ?_; rotate_left 2; rfl; kernel_rfl; kernel_rfl; kernel_rfl; exact (fun _ _ _ h => h)
      · (refine Or.inl ⟨by rfl, ?_⟩; intro w hSw; (try dsimp only at hSw); go_simp; try (with_reducible rfl))
      · assumption
      try simp only [Act.put]
      refine wpAnyH_ready (rs := [9]) (by kernel_rfl) (by simp) ?_
      refine AllReadyH.cons (o := ?_) ?_ ?_ AllReadyH.nil; rotate_left 1; rfl
      intro K hK
      go_simp
      refine (Hpf.out _).mono ?_
      rintro e w2 ⟨rfl, hb⟩
      try (go_wp2_with fail)
      refine hK.out _ _ (held2_below hHeld (Nat.le_refl _) hb) (fun hHeld => ?_)
      clear hK K
      try simp only [Act.put, List.setIfInBounds_toArray, List.set_cons_zero, List.set_cons_succ]
      refine wpAnyH_take (i := 11) (oi := ?_) (v := ?_) ?_ ?_ ?_ ?_ ?_ ?_ ?_ ?_; rotate_left 2; rfl; kernel_rfl; kernel_rfl; kernel_rfl; exact (fun _ _ _ h => h)
      · (refine Or.inl ⟨by rfl, ?_⟩; intro w hSw; (try dsimp only at hSw); go_simp; try (with_reducible rfl))
      · assumption
      try simp only [Act.put, List.setIfInBounds_toArray]
      refine wpAnyH_ready (rs := [12]) (by kernel_rfl) (by simp) ?_
      refine AllReadyH.cons (o := ?_) ?_ ?_ AllReadyH.nil; rotate_left 1; rfl
      intro K hK
      go_simp
      refine hK.out _ _ (held2_alloc hHeld (Nat.le_refl _) _) (fun hHeld => ?_)
      clear hK K
      try simp only [Act.put, List.setIfInBounds_toArray, List.set_cons_zero, List.set_cons_succ]
      refine wpAnyH_ready (rs := [13]) (by kernel_rfl) (by simp) ?_
      refine AllReadyH.cons (o := ?_) ?_ ?_ AllReadyH.nil; rotate_left 1; rfl
      intro K hK
      go_simp
      refine (first_two _ _ _ _ _ _).mono ?_
      rintro e w3 ⟨rfl, hb3⟩
      try (go_wp2_with fail)
      refine hK.out _ _ (held2_below hHeld (Nat.le_refl _) hb3) (fun hHeld => ?_)
      clear hK K
      try simp only [Act.put, List.setIfInBounds_toArray, List.set_cons_zero, List.set_cons_succ]
      refine wpAnyH_take (i := 14) (oi := ?_) (v := ?_) ?_ ?_ ?_ ?_ ?_ ?_ ?_ ?_; rotate_left 2; rfl; kernel_rfl; kernel_rfl; kernel_rfl; exact (fun _ _ _ h => h)
      · (refine Or.inl ⟨by rfl, ?_⟩; intro w hSw; (try dsimp only at hSw); go_simp; try (with_reducible rfl))
      · assumption
      try simp only [Act.put, List.setIfInBounds_toArray]
      refine wpAnyH_done (by kernel_rfl) ?_ _

      obtain ⟨hk2, hk3, hB3⟩ := hHeld
      clear hs2 hs3
      have hB3w : Below w.heap.size w w3 := hB1.trans (hB3.mono hB1.size)
      have hE3 := hE.below hB3w
      simp only [firstV, Bool.false_eq_true, if_false]
      have hrs8 : (⟨rs.toArray⟩ : ByteArray).size = rs.length := by simp [ByteArray.size]
      have hcp := Tryz.strings_CutPrefix ⟨rs.toArray⟩ ⟨#[58]⟩ w3
      simp only at hcp
      have hs3 := hE3.s_fold_errItem.cell
      by_cases h3 : Lib.hasPrefix rs [58] = true
      · rw [if_pos h3] at hr
        rw [h3] at hcp
        obtain ⟨tr, htr⟩ : ∃ tr, tr = Lib.trimLeftB (Lib.trimPrefix rs [58]) 32 := ⟨_, rfl⟩
        have htl := Tryz.strings_TrimLeft_one ⟨(Lib.trimPrefix rs [58]).toArray⟩ 32 (by decide) w3
        simp only at htl
        rw [← htr] at htl hr
        have htrl : tr.length ≤ rs.length := by
          rw [htr]
          refine Nat.le_trans (trimLeftB_le _ _) ?_
          unfold Lib.trimPrefix
          split <;> simp
        have hub := Unbase_any G ⟨tr.toArray⟩ (by have : (⟨tr.toArray⟩ : ByteArray).size = tr.length := by simp [ByteArray.size]
                                                  omega) w3 hE3
        have Hcp := Lib.hid hcp
        have Htl := Lib.hid htl
        have Hub := Lib.hid hub
        clear hcp htl hub hrs8 htr h3
        go_wp2_with fail
        refine Hcp.out.mono ?_
        rintro e w4 ⟨rfl, h4⟩
        obtain rfl := h4.symm
        go_wp2_with fail
        refine Htl.out.mono ?_
        rintro e w4 ⟨rfl, h4⟩
        obtain rfl := h4.symm
        go_wp2_with fail
        refine Hub.out.mono ?_
        rintro e w4 ⟨rfl, hB4⟩
        have hs4 := (hE3.below hB4).s_fold_errItem.cell
        clear hs3
        have hB4w : Below w.heap.size w w4 := hB3w.trans (hB4.mono hB3w.size)
        cases hu : unbaseL ⟨tr.toArray⟩ with
        | some v =>
          rw [hu] at hr
          have Hr := Lib.hid hr
          clear hr hu
          dsimp only [UnbV]
          go_wp2
          go_ret3
          refine ⟨?_, hB4w⟩
          rw [Hr.out]
          rfl
        | none =>
          rw [hu] at hr
          have Hr := Lib.hid hr
          clear hr hu
          dsimp only [UnbV]
          go_wp2
          go_quiet (fail)
          go_wp2
          go_ret3
          refine ⟨?_, bdrew hB4w _⟩
          rw [Hr.out]
          rfl
      · rw [if_neg h3] at hr
        rw [Bool.not_eq_true] at h3
        rw [h3] at hcp
        obtain ⟨tr, htr⟩ : ∃ tr, tr = Lib.trimLeftB rs 32 := ⟨_, rfl⟩
        have htl := Tryz.strings_TrimLeft_one ⟨rs.toArray⟩ 32 (by decide) w3
        simp only at htl
        rw [← htr] at htl hr
        have htrl : tr.length ≤ rs.length := by
          rw [htr]
          exact trimLeftB_le _ _
        have hsf := isSafe_any ⟨tr.toArray⟩ (by have : (⟨tr.toArray⟩ : ByteArray).size = tr.length := by simp [ByteArray.size]
                                                omega) w3
        simp only at hsf
        have Hcp := Lib.hid hcp
        have Htl := Lib.hid htl
        clear hcp htl hrs8 htr h3
        by_cases h5 : isSafeL tr = true
        · rw [if_pos h5] at hr
          rw [h5] at hsf
          have Hsf := Lib.hid hsf
          have Hr := Lib.hid hr
          clear hsf hr h5
          go_wp2_with fail
          refine Hcp.out.mono ?_
          rintro e w4 ⟨rfl, h4⟩
          obtain rfl := h4.symm
          go_wp2_with fail
          refine Htl.out.mono ?_
          rintro e w4 ⟨rfl, h4⟩
          obtain rfl := h4.symm
          go_wp2_with fail
          refine Hsf.out.mono ?_
          rintro e w4 ⟨rfl, hB4⟩
          go_wp2
          go_ret3
          refine ⟨?_, hB3w.trans (hB4.mono hB3w.size)⟩
          rw [Hr.out]
          rfl
        · rw [if_neg h5] at hr
          rw [Bool.not_eq_true] at h5
          rw [h5] at hsf
          have Hsf := Lib.hid hsf
          have Hr := Lib.hid hr
          clear hsf hr h5
          go_wp2_with fail
          refine Hcp.out.mono ?_
          rintro e w4 ⟨rfl, h4⟩
          obtain rfl := h4.symm
          go_wp2_with fail
          refine Htl.out.mono ?_
          rintro e w4 ⟨rfl, h4⟩
          obtain rfl := h4.symm
          go_wp2_with fail
          refine Hsf.out.mono ?_
          rintro e w4 ⟨rfl, hB4⟩
          have hs4 := (hE3.below hB4).s_fold_errItem.cell
          clear hs3
          go_wp2
          go_quiet (fail)
          go_wp2
          go_ret3
          refine ⟨?_, bdrew (hB3w.trans (hB4.mono hB3w.size)) _⟩
          rw [Hr.out]
          rfl

def RIV : RI → Value
  | .ok n v => .tuple #[.string ⟨n.toArray⟩, .string ⟨v.toArray⟩, .int .i64 0]
  | .bad g => .tuple #[.string ⟨#[]⟩, .string ⟨#[]⟩, .int .i64 (if g = 3 then 152 else 151)]
theorem readL_bad {s : List UInt8} {g : Nat} (h : readL s = .bad g) : g = 2 ∨ g = 3 := by
  unfold readL at h
  repeat' split at h
  all_goals first
    | (injection h with h; first | exact .inl h.symm | exact .inr h.symm)
    | cases h
theorem ReadItem_any (G : Nat → Addr) (s : ByteArray) (hs : s.size ≤ 1000000) (w : World) (hE : Env G w) :
    Calls Tryz.prog 15 #[.string s] w fun e w' => e = .returned (RIV (readL s.data.toList)) ∧ Below w.heap.size w w' := by
  go_enter Tryz.func15, Tryz.ntmps15
  go_wp2_with fail
  refine (readItem_any G s hs w hE).mono ?_
  rintro e w1 ⟨rfl, hB1⟩
  have hE1 := hE.below hB1
  cases hr : readL s.data.toList with
  | ok n v =>
    have Hr := Lib.hid hr
    clear hr
    dsimp only [riE]
    go_wp2_with fail
    refine (fold_told_nil _).mono ?_
    rintro e w2 ⟨rfl, hB2⟩
    go_wp2
    go_ret3
    refine ⟨?_, hB1.trans (hB2.mono hB1.size)⟩
    rw [Hr.out]
    rfl
  | bad g =>
    have Hr := Lib.hid hr
    rcases readL_bad hr with rfl | rfl
    all_goals clear hr
    all_goals dsimp only [riE]
    · go_wp2_with fail
      refine (fold_told_errItem G 0 _ hE1).mono ?_
      rintro e w2 ⟨rfl, hB2⟩
      go_wp2
      go_ret3
      refine ⟨?_, hB1.trans (hB2.mono hB1.size)⟩
      rw [Hr.out]
      rfl
    · go_wp2_with fail
      refine (fold_told_errUrl G 0 _ hE1).mono ?_
      rintro e w2 ⟨rfl, hB2⟩
      go_wp2
      go_ret3
      refine ⟨?_, hB1.trans (hB2.mono hB1.size)⟩
      rw [Hr.out]
      rfl
end Go.Proofs.YtbocflglknkiaaaGreatDoor
