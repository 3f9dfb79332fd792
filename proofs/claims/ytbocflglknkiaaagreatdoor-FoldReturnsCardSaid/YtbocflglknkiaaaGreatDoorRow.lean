/- fold: (*unfolder).row. -/
import Derived.Test.YtbocflglknkiaaaGreatDoorLines
import Derived.Test.YtbocflglknkiaaaGreatDoorFoldC
namespace Go.Proofs.YtbocflglknkiaaaGreatDoor
open Go.RowKit Go.Shelf

/-- Does a row go on with the line ahead of it? -/
def isMoreL (s : ByteArray) : Bool := Lib.hasPrefix s.data.toList [32]
def badRow (op : Bool) (s : ByteArray) : Bool := hasOtherR s.data.toList || (isMoreL s && !op)
def addRow (l : List ByteArray) (s : ByteArray) : List ByteArray :=
  if isMoreL s then l.dropLast ++ [l.getLastD ⟨#[]⟩ ++ s.extract 1 s.size] else l ++ [s]
def wrongV (G : Nat → Addr) (i : Int) (g : Nat) : Value := .iface 54 (.agg #[.int .i64 i, .iface 159 (.pointer (some (G g)))])
def RowPost (G : Nat → Addr) (n U : Nat) (l : List ByteArray) (op : Bool) (i : Int) (s : ByteArray) (w : World) (e : Ending) (w' : World) : Prop :=
  Mo n U w w' ∧ if badRow op s then e = .returned (wrongV G i 1) else e = .returned .nilIface ∧ LinesAt n U (addRow l s) (!s.toList.isEmpty) w'

theorem RowPost.bad {G : Nat → Addr} {n U : Nat} {l : List ByteArray} {op : Bool} {i : Int} {s : ByteArray} {w w' : World} (h : badRow op s = true) (hm : Mo n U w w') : RowPost G n U l op i s w (.returned (wrongV G i 1)) w' :=
  ⟨hm, by rw [if_pos h]⟩
theorem RowPost.ok {G : Nat → Addr} {n U : Nat} {l : List ByteArray} {op : Bool} {i : Int} {s : ByteArray} {w w' : World} (h : badRow op s = false) (hm : Mo n U w w') (hl : LinesAt n U (addRow l s) (!s.toList.isEmpty) w') : RowPost G n U l op i s w (.returned .nilIface) w' :=
  ⟨hm, by rw [if_neg (by simp [h])]; exact ⟨rfl, hl⟩⟩

/-- The post of a function that defers and does not panic. -/
def bodyPostN (P : Program) (fn : Func) (R : Ending → World → Prop) : Exit → Act → World → Prop
  | .normal, a, w | .ret, a, w => Leaves P fn a.tmps R a.defers .returning w
  | _, _, _ => False
theorem bodyPostN_le {P : Program} {fn : Func} {R : Ending → World → Prop} (e : Exit) (a : Act) (w : World) (h : bodyPostN P fn R e a w) : bodyPostD P fn R e a w := by
  cases e <;> first | exact h | exact h.elim

theorem isMore_size {s : ByteArray} (h : isMoreL s = true) : 1 ≤ s.size := by
  have h8 : s.data.toList.length = s.size := by simp
  unfold isMoreL Lib.hasPrefix at h
  cases hl : s.data.toList with
  | nil => rw [hl] at h; simp at h
  | cons c r => rw [hl] at h8; simp at h8; omega
set_option maxHeartbeats 8000000 in
set_option maxRecDepth 100000 in
theorem row_any (G : Nat → Addr) (n U : Nat) (l : List ByteArray) (op : Bool) (i : Int) (s : ByteArray) (hs : s.size ≤ 1000000) (w : World) (hE : Env G w) (h : LinesAt n U l op w)
    (hl : l.length ≤ 100000) (ho : op = true → l ≠ []) (hx : (l.getLastD ⟨#[]⟩).size + s.size ≤ 1000000000000) :
    Calls Tryz.prog 35 #[.pointer (some ⟨U, 0, none⟩), .int .i64 i, .string s] w (RowPost G n U l op i s w) := by
  have hmf : ∀ (fn : Fn) (first cap : Array Value) (w : World), (Instr.makeFunc fn first cap).run Tryz.prog w = .ok (.func fn first cap) w := fun _ _ _ _ => rfl
  have hpf : ∀ W, Calls Tryz.prog 36 #[.string s, .string ⟨#[32]⟩] W fun e w' => e = .returned (.bool (isMoreL s)) ∧ Below W.heap.size W w' := fun W => (Tryz.strings_HasPrefix s ⟨#[32]⟩ W).mono fun e w' h => ⟨h.1, by rw [h.2]; exact Below.refl _ _⟩
  have hof := fun W => other_contains s W
  obtain ⟨b1, hb1⟩ : ∃ b, b = hasOtherR s.data.toList := ⟨_, rfl⟩
  obtain ⟨pm, hpm⟩ : ∃ b, b = isMoreL s := ⟨_, rfl⟩
  rw [← hpm] at hpf
  rw [← hb1] at hof
  have HPM := Lib.hid hpm
  have HB1 := Lib.hid hb1
  have Hof := Lib.hid hof
  have Hpf := Lib.hid hpf
  have HL := Lib.hid h
  have HEw := Lib.hid hE
  clear hpm hb1 hof hpf h hE
  cases pm with
  | true =>
    go_enter_defers Tryz.func35, Tryz.ntmps35
    refine Code.wp_mono bodyPostN_le ?_
    go_wp2_with fail
    refine (Hpf.out _).mono ?_
    rintro e w1 ⟨rfl, hB1⟩
    have hb0 : Below w.heap.size w w1 := (((Below.refl _ w).alloc (Nat.le_refl _) _).alloc (by simp) _).trans (hB1.mono (by simp; omega))
    have hs1 := (HEw.out.below hb0).s_fold_errFold.cell
    have hs2 : w1.cell? ⟨w.heap.size + 1, 0, none⟩ = some (.string s) := (hB1.cell (by simp)).trans (by simp)
    have hs3 : w1.cell? ⟨w.heap.size, 0, none⟩ = some (.pointer (some ⟨U, 0, none⟩)) := (hB1.cell (by simp; omega)).trans (by simp)
    have hs4 := (HL.out.below hb0 (Nat.le_refl _)).cells.1
    have hsz : w.heap.size + 2 ≤ w1.heap.size := by have := hB1.size; simpa using this
    have HB := Lib.hid hb0
    clear hB1 hb0 hmf
    go_wp2_with fail
    refine wp_region_held_drew (S := fun W => W.cell? ⟨1, 0, none⟩ = some (.iface 159 (.pointer (some (G 1)))) ∧ W.cell? ⟨w.heap.size + 1, 0, none⟩ = some (.string s) ∧ W.cell? ⟨w.heap.size, 0, none⟩ = some (.pointer (some ⟨U, 0, none⟩)) ∧ W.cell? ⟨U, 1, none⟩ = some (.bool op) ∧ Below w1.heap.size w1 W) (by kernel_rfl) (held4_drew ⟨hs1, hs2, hs3, hs4, Below.refl _ _⟩) (fun hHeld => ?_)
    refine wpAnyH_take (i := 0) (oi := ?_) (v := ?_) ?_ ?_ ?_ ?_ ?_ ?_ ?_ ?_; rotate_left 2; rfl; kernel_rfl; kernel_rfl; kernel_rfl; exact (fun _ _ _ h => h)
    · (refine Or.inl ⟨by rfl, ?_⟩; intro w hSw; (try dsimp only at hSw); go_simp; try (with_reducible rfl))
    · assumption
    try simp only [Act.put, List.setIfInBounds_toArray]
    refine wpAnyH_take (i := 1) (oi := ?_) (v := ?_) ?_ ?_ ?_ ?_ ?_ ?_ ?_ ?_; rotate_left 2; rfl; kernel_rfl; kernel_rfl; kernel_rfl; exact (fun _ _ _ h => h)
    · (refine Or.inl ⟨by rfl, ?_⟩; intro w hSw; (try dsimp only at hSw); go_simp; try (with_reducible rfl))
    · assumption
    try simp only [Act.put]
    refine wpAnyH_take (i := 3) (oi := ?_) (v := ?_) ?_ ?_ ?_ ?_ ?_ ?_ ?_ ?_; rotate_left 2; rfl; kernel_rfl; kernel_rfl; kernel_rfl; exact (fun _ _ _ h => h)
    · (refine Or.inl ⟨by rfl, ?_⟩; intro w hSw; (try dsimp only at hSw); go_simp; try (with_reducible rfl))
    · assumption
    try simp only [Act.put]
    refine wpAnyH_take (i := 5) (oi := ?_) (v := ?_) ?_ ?_ ?_ ?_ ?_ ?_ ?_ ?_; rotate_left 2; rfl; kernel_rfl; kernel_rfl; kernel_rfl; exact (fun _ _ _ h => h)
    · (refine Or.inl ⟨by rfl, ?_⟩; intro w hSw; (try dsimp only at hSw); go_simp; try (with_reducible rfl))
    · assumption
    try simp only [Act.put]
    refine wpAnyH_take (i := 14) (oi := ?_) (v := ?_) ?_ ?_ ?_ ?_ ?_ ?_ ?_ ?_; rotate_left 2; rfl; kernel_rfl; kernel_rfl; kernel_rfl; exact (fun _ _ _ h => h)
    · (refine Or.inl ⟨by rfl, ?_⟩; intro w hSw; (try dsimp only at hSw); go_simp; try (with_reducible rfl))
    · assumption
    try simp only [Act.put]
    refine wpAnyH_ready (rs := [2]) (by kernel_rfl) (by simp) ?_
    refine AllReadyH.cons (o := ?_) ?_ ?_ AllReadyH.nil; rotate_left 1; rfl
    intro K hK
    go_simp
    refine (Hof.out _).mono ?_
    rintro e w2 ⟨rfl, hb⟩
    try (go_wp2_with fail)
    refine hK.out _ _ (held4_below hHeld (Nat.le_refl _) hb) (fun hHeld => ?_)
    clear hK K
    try simp only [Act.put, List.setIfInBounds_toArray, List.set_cons_zero, List.set_cons_succ]
    refine wpAnyH_take (i := 4) (oi := ?_) (v := ?_) ?_ ?_ ?_ ?_ ?_ ?_ ?_ ?_; rotate_left 2; rfl; kernel_rfl; kernel_rfl; kernel_rfl; exact (fun _ _ _ h => h)
    · (refine Or.inl ⟨by rfl, ?_⟩; intro w hSw; (try dsimp only at hSw); go_simp; try (with_reducible rfl))
    · assumption
    try simp only [Act.put, List.setIfInBounds_toArray]
    refine wpAnyH_take (i := 6) (oi := ?_) (v := ?_) ?_ ?_ ?_ ?_ ?_ ?_ ?_ ?_; rotate_left 2; rfl; kernel_rfl; kernel_rfl; kernel_rfl; exact (fun _ _ _ h => h)
    · (refine Or.inl ⟨by rfl, ?_⟩; intro w hSw; (try dsimp only at hSw); go_simp; try (with_reducible rfl))
    · assumption
    try simp only [Act.put]
    refine wpAnyH_take (i := 7) (oi := ?_) (v := ?_) ?_ ?_ ?_ ?_ ?_ ?_ ?_ ?_; rotate_left 2; rfl; kernel_rfl; kernel_rfl; kernel_rfl; exact (fun _ _ _ h => h)
    · (refine Or.inl ⟨by rfl, ?_⟩; intro w hSw; (try dsimp only at hSw); go_simp; try (with_reducible rfl))
    · assumption
    try simp only [Act.put]
    refine wpAnyH_take (i := 8) (oi := ?_) (v := ?_) ?_ ?_ ?_ ?_ ?_ ?_ ?_ ?_; rotate_left 2; rfl; kernel_rfl; kernel_rfl; kernel_rfl; exact (fun _ _ _ h => h)
    · (refine Or.inl ⟨by rfl, ?_⟩; intro w hSw; (try dsimp only at hSw); go_simp; try (with_reducible rfl))
    · assumption
    try simp only [Act.put]
    refine wpAnyH_take (i := 9) (oi := ?_) (v := ?_) ?_ ?_ ?_ ?_ ?_ ?_ ?_ ?_; rotate_left 2; rfl; kernel_rfl; kernel_rfl; kernel_rfl; exact (fun _ _ _ h => h)
    · (refine Or.inl ⟨by rfl, ?_⟩; intro w hSw; (try dsimp only at hSw); go_simp; try (with_reducible rfl))
    · assumption
    try simp only [Act.put]
    refine wpAnyH_take (i := 10) (oi := ?_) (v := ?_) ?_ ?_ ?_ ?_ ?_ ?_ ?_ ?_; rotate_left 2; rfl; kernel_rfl; kernel_rfl; kernel_rfl; exact (fun _ _ _ h => h)
    · (refine Or.inl ⟨by rfl, ?_⟩; intro w hSw; (try dsimp only at hSw); go_simp; try (with_reducible rfl))
    · assumption
    try simp only [Act.put]
    refine wpAnyH_take (i := 11) (oi := ?_) (v := ?_) ?_ ?_ ?_ ?_ ?_ ?_ ?_ ?_; rotate_left 2; rfl; kernel_rfl; kernel_rfl; kernel_rfl; exact (fun _ _ _ h => h)
    · (refine Or.inl ⟨by rfl, ?_⟩; intro w hSw; (try dsimp only at hSw); go_simp; try (with_reducible rfl))
    · assumption
    try simp only [Act.put]
    refine wpAnyH_take (i := 12) (oi := ?_) (v := ?_) ?_ ?_ ?_ ?_ ?_ ?_ ?_ ?_; rotate_left 2; rfl; kernel_rfl; kernel_rfl; kernel_rfl; exact (fun _ _ _ h => h)
    · (refine Or.inl ⟨by rfl, ?_⟩; intro w hSw; (try dsimp only at hSw); go_simp; try (with_reducible rfl))
    · assumption
    try simp only [Act.put]
    refine wpAnyH_take (i := 13) (oi := ?_) (v := ?_) ?_ ?_ ?_ ?_ ?_ ?_ ?_ ?_; rotate_left 2; rfl; kernel_rfl; kernel_rfl; kernel_rfl; exact (fun _ _ _ h => h)
    · (refine Or.inl ⟨by rfl, ?_⟩; intro w hSw; (try dsimp only at hSw); go_simp; try (with_reducible rfl))
    · assumption
    try simp only [Act.put]
    refine wpAnyH_take (i := 15) (oi := ?_) (v := ?_) ?_ ?_ ?_ ?_ ?_ ?_ ?_ ?_; rotate_left 2; rfl; kernel_rfl; kernel_rfl; kernel_rfl; exact (fun _ _ _ h => h)
    · (refine Or.inl ⟨by rfl, ?_⟩; intro w hSw; (try dsimp only at hSw); go_simp; try (with_reducible rfl))
    · assumption
    try simp only [Act.put]
    refine wpAnyH_ready (rs := [16]) (by kernel_rfl) (by simp) ?_
    refine AllReadyH.cons (o := ?_) ?_ ?_ AllReadyH.nil; rotate_left 1; rfl
    intro K hK
    go_simp
    refine hK.out _ _ (held4_alloc hHeld (Nat.le_refl _) _) (fun hHeld => ?_)
    clear hK K
    try simp only [Act.put, List.setIfInBounds_toArray, List.set_cons_zero, List.set_cons_succ]
    refine wpAnyH_ready (rs := [17]) (by kernel_rfl) (by simp) ?_
    refine AllReadyH.cons (o := ?_) ?_ ?_ AllReadyH.nil; rotate_left 1; rfl
    intro K hK
    go_simp
    refine (first_two _ _ _ _ _ _).mono ?_
    rintro e w3 ⟨rfl, hb3⟩
    try (go_wp2_with fail)
    refine hK.out _ _ (held4_below hHeld (Nat.le_refl _) hb3) (fun hHeld => ?_)
    clear hK K
    try simp only [Act.put, List.setIfInBounds_toArray, List.set_cons_zero, List.set_cons_succ]
    refine wpAnyH_take (i := 18) (oi := ?_) (v := ?_) ?_ ?_ ?_ ?_ ?_ ?_ ?_ ?_; rotate_left 2; rfl; kernel_rfl; kernel_rfl; kernel_rfl; exact (fun _ _ _ h => h)
    · (refine Or.inl ⟨by rfl, ?_⟩; intro w hSw; (try dsimp only at hSw); go_simp; try (with_reducible rfl))
    · assumption
    try simp only [Act.put, List.setIfInBounds_toArray]
    refine wpAnyH_done (by kernel_rfl) ?_ _

    obtain ⟨hk1, hk2, hk3, hk4, hB3⟩ := hHeld
    have HB3 := Lib.hid (HB.out.trans (hB3.mono HB.out.size))
    have HM3 := Lib.hid (show Mo n U w w3 from .of_below HB3.out rfl HL.out.2.1)
    have hsz3 : w.heap.size + 2 ≤ w3.heap.size := by have := hB3.size; omega
    have HL3 := Lib.hid (HL.out.below HB3.out (Nat.le_refl _))
    have HI3 := Lib.hid (HL.out.toIn.below HB3.out)
    clear hs1 hs2 hs3 hs4 hB3 hb hb3 hsz
    cases b1 with
    | true =>
      simp only [firstV, if_true]
      go_wp2
      refine close_door n U _ _ _ _ s _ HL3.out hk2 hk3 _ _ ?_
      exact RowPost.bad (by rw [badRow, ← HB1.out]; rfl) (HM3.out.trans (Mo.setU _ _ _ _ _))
    | false =>
      cases op with
      | false =>
        simp only [firstV, if_true, Bool.false_eq_true, if_false, Bool.not_false]
        go_wp2
        refine close_door n U _ _ _ _ s _ HL3.out hk2 hk3 _ _ ?_
        exact RowPost.bad (by rw [badRow, ← HB1.out, ← HPM.out]; rfl) (HM3.out.trans (Mo.setU _ _ _ _ _))
      | true =>
        obtain ⟨l0, x, rfl⟩ : ∃ l0 x, l = l0 ++ [x] := ⟨l.dropLast, l.getLast (ho rfl), (List.dropLast_concat_getLast (ho rfl)).symm⟩
        have h1s : (1 : Int) ≤ (s.size : Int) := by have := isMore_size HPM.out.symm; omega
        simp only [List.getLastD_concat] at hx
        clear ho
        simp only [firstV, Bool.false_eq_true, if_false, Bool.not_true]
        go_wp2_with fail
        refine wp_region_held_drew (S := fun W => W.cell? ⟨w.heap.size + 1, 0, none⟩ = some (.string s) ∧ W.cell? ⟨w.heap.size, 0, none⟩ = some (.pointer (some ⟨U, 0, none⟩))) (by kernel_rfl) (⟨hk2, hk3⟩) (fun hHeld => ?_)
        refine wpAnyH_take (i := 0) (oi := ?_) (v := ?_) ?_ ?_ ?_ ?_ ?_ ?_ ?_ ?_; rotate_left 2; rfl; kernel_rfl; kernel_rfl; kernel_rfl; exact (fun _ _ _ h => h)
        · (refine Or.inl ⟨by rfl, ?_⟩; intro w hSw; (try dsimp only at hSw); go_simp; try (with_reducible rfl))
        · assumption
        try simp only [Act.put, List.setIfInBounds_toArray]
        refine wpAnyH_take (i := 1) (oi := ?_) (v := ?_) ?_ ?_ ?_ ?_ ?_ ?_ ?_ ?_; rotate_left 2; rfl; kernel_rfl; kernel_rfl; kernel_rfl; exact (fun _ _ _ h => h)
        · (refine Or.inl ⟨by rfl, ?_⟩; intro w hSw; (try dsimp only at hSw); go_simp; try (with_reducible rfl))
        · assumption
        try simp only [Act.put]
        refine wpAnyH_take (i := 2) (oi := ?_) (v := ?_) ?_ ?_ ?_ ?_ ?_ ?_ ?_ ?_; rotate_left 2; rfl; kernel_rfl; kernel_rfl; kernel_rfl; exact (fun _ _ _ h => h)
        · (refine Or.inl ⟨by rfl, ?_⟩; intro w hSw; (try dsimp only at hSw); go_simp; try (with_reducible rfl))
        · assumption
        try simp only [Act.put]
        refine wpAnyH_take (i := 3) (oi := ?_) (v := ?_) ?_ ?_ ?_ ?_ ?_ ?_ ?_ ?_; rotate_left 2; rfl; kernel_rfl; kernel_rfl; kernel_rfl; exact (fun _ _ _ h => h)
        · (refine Or.inl ⟨by rfl, ?_⟩; intro w hSw; (try dsimp only at hSw); go_simp; try (with_reducible rfl))
        · assumption
        try simp only [Act.put]
        refine wpAnyH_take (i := 4) (oi := ?_) (v := ?_) ?_ ?_ ?_ ?_ ?_ ?_ ?_ ?_; rotate_left 2; rfl; kernel_rfl; kernel_rfl; kernel_rfl; exact (fun _ _ _ h => h)
        · (refine Or.inl ⟨by rfl, ?_⟩; intro w hSw; (try dsimp only at hSw); go_simp; try (with_reducible rfl))
        · assumption
        try simp only [Act.put]
        refine wpAnyH_ready (rs := [5]) (by kernel_rfl) (by simp) ?_
        refine AllReadyH.cons (o := ?_) ?_ ?_ AllReadyH.nil; rotate_left 1; rfl
        intro K hK
        go_simp
        refine (more_any n U l0 x true _ w3.drew w.heap.size HI3.out (by simp at hl; omega) (by simp; omega)).mono ?_
        rintro e w4 ⟨rfl, hL4, hM4, hK4⟩
        try (go_wp2_with fail)
        refine hK.out _ _ (⟨(World.cell?_of_block (hK4 _ (Nat.le_succ _) (show w.heap.size + 1 < w3.heap.size by omega))).trans hk2, (World.cell?_of_block (hK4 _ (Nat.le_refl _) (show w.heap.size < w3.heap.size by omega))).trans hk3⟩) (fun hHeld => ?_)
        clear hK K
        try simp only [Act.put, List.setIfInBounds_toArray, List.set_cons_zero, List.set_cons_succ]
        refine wpAnyH_done (by kernel_rfl) ?_ _
        obtain ⟨hj2, hj3⟩ := hHeld
        have HL4 := Lib.hid hL4
        have HM4 := Lib.hid hM4
        clear hk2 hk3 hk4 hL4 hM4 hK4
        go_wp2
        refine close_door n U _ _ _ _ s _ HL4.out hj2 hj3 _ _ ?_
        refine RowPost.ok (by rw [badRow, ← HB1.out, ← HPM.out]; rfl) ((HM3.out.trans (Mo.trans (.of_below (Below.refl _ w3).drew rfl (Nat.le_trans HL.out.2.1 HB3.out.size)) HM4.out)).trans (Mo.setU _ _ _ _ _)) ?_
        rw [addRow, ← HPM.out]
        simpa [rowClose] using HL4.out.setOpen _

  | false =>
    go_enter_defers Tryz.func35, Tryz.ntmps35
    refine Code.wp_mono bodyPostN_le ?_
    go_wp2_with fail
    refine (Hpf.out _).mono ?_
    rintro e w1 ⟨rfl, hB1⟩
    have hb0 : Below w.heap.size w w1 := (((Below.refl _ w).alloc (Nat.le_refl _) _).alloc (by simp) _).trans (hB1.mono (by simp; omega))
    have hs1 := (HEw.out.below hb0).s_fold_errFold.cell
    have hs2 : w1.cell? ⟨w.heap.size + 1, 0, none⟩ = some (.string s) := (hB1.cell (by simp)).trans (by simp)
    have hs3 : w1.cell? ⟨w.heap.size, 0, none⟩ = some (.pointer (some ⟨U, 0, none⟩)) := (hB1.cell (by simp; omega)).trans (by simp)
    have hs4 := (HL.out.below hb0 (Nat.le_refl _)).cells.1
    have hsz : w.heap.size + 2 ≤ w1.heap.size := by have := hB1.size; simpa using this
    have HB := Lib.hid hb0
    clear hB1 hb0 hmf
    go_wp2_with fail
    refine wp_region_held_drew (S := fun W => W.cell? ⟨1, 0, none⟩ = some (.iface 159 (.pointer (some (G 1)))) ∧ W.cell? ⟨w.heap.size + 1, 0, none⟩ = some (.string s) ∧ W.cell? ⟨w.heap.size, 0, none⟩ = some (.pointer (some ⟨U, 0, none⟩)) ∧ W.cell? ⟨U, 1, none⟩ = some (.bool op) ∧ Below w1.heap.size w1 W) (by kernel_rfl) (held4_drew ⟨hs1, hs2, hs3, hs4, Below.refl _ _⟩) (fun hHeld => ?_)
    refine wpAnyH_take (i := 0) (oi := ?_) (v := ?_) ?_ ?_ ?_ ?_ ?_ ?_ ?_ ?_; rotate_left 2; rfl; kernel_rfl; kernel_rfl; kernel_rfl; exact (fun _ _ _ h => h)
    · (refine Or.inl ⟨by rfl, ?_⟩; intro w hSw; (try dsimp only at hSw); go_simp; try (with_reducible rfl))
    · assumption
    try simp only [Act.put, List.setIfInBounds_toArray]
    refine wpAnyH_take (i := 1) (oi := ?_) (v := ?_) ?_ ?_ ?_ ?_ ?_ ?_ ?_ ?_; rotate_left 2; rfl; kernel_rfl; kernel_rfl; kernel_rfl; exact (fun _ _ _ h => h)
    · (refine Or.inl ⟨by rfl, ?_⟩; intro w hSw; (try dsimp only at hSw); go_simp; try (with_reducible rfl))
    · assumption
    try simp only [Act.put]
    refine wpAnyH_take (i := 3) (oi := ?_) (v := ?_) ?_ ?_ ?_ ?_ ?_ ?_ ?_ ?_; rotate_left 2; rfl; kernel_rfl; kernel_rfl; kernel_rfl; exact (fun _ _ _ h => h)
    · (refine Or.inl ⟨by rfl, ?_⟩; intro w hSw; (try dsimp only at hSw); go_simp; try (with_reducible rfl))
    · assumption
    try simp only [Act.put]
    refine wpAnyH_take (i := 5) (oi := ?_) (v := ?_) ?_ ?_ ?_ ?_ ?_ ?_ ?_ ?_; rotate_left 2; rfl; kernel_rfl; kernel_rfl; kernel_rfl; exact (fun _ _ _ h => h)
    · (refine Or.inl ⟨by rfl, ?_⟩; intro w hSw; (try dsimp only at hSw); go_simp; try (with_reducible rfl))
    · assumption
    try simp only [Act.put]
    refine wpAnyH_take (i := 14) (oi := ?_) (v := ?_) ?_ ?_ ?_ ?_ ?_ ?_ ?_ ?_; rotate_left 2; rfl; kernel_rfl; kernel_rfl; kernel_rfl; exact (fun _ _ _ h => h)
    · (refine Or.inl ⟨by rfl, ?_⟩; intro w hSw; (try dsimp only at hSw); go_simp; try (with_reducible rfl))
    · assumption
    try simp only [Act.put]
    refine wpAnyH_ready (rs := [2]) (by kernel_rfl) (by simp) ?_
    refine AllReadyH.cons (o := ?_) ?_ ?_ AllReadyH.nil; rotate_left 1; rfl
    intro K hK
    go_simp
    refine (Hof.out _).mono ?_
    rintro e w2 ⟨rfl, hb⟩
    try (go_wp2_with fail)
    refine hK.out _ _ (held4_below hHeld (Nat.le_refl _) hb) (fun hHeld => ?_)
    clear hK K
    try simp only [Act.put, List.setIfInBounds_toArray, List.set_cons_zero, List.set_cons_succ]
    refine wpAnyH_take (i := 4) (oi := ?_) (v := ?_) ?_ ?_ ?_ ?_ ?_ ?_ ?_ ?_; rotate_left 2; rfl; kernel_rfl; kernel_rfl; kernel_rfl; exact (fun _ _ _ h => h)
    · (refine Or.inl ⟨by rfl, ?_⟩; intro w hSw; (try dsimp only at hSw); go_simp; try (with_reducible rfl))
    · assumption
    try simp only [Act.put, List.setIfInBounds_toArray]
    refine wpAnyH_take (i := 6) (oi := ?_) (v := ?_) ?_ ?_ ?_ ?_ ?_ ?_ ?_ ?_; rotate_left 2; rfl; kernel_rfl; kernel_rfl; kernel_rfl; exact (fun _ _ _ h => h)
    · (refine Or.inl ⟨by rfl, ?_⟩; intro w hSw; (try dsimp only at hSw); go_simp; try (with_reducible rfl))
    · assumption
    try simp only [Act.put]
    refine wpAnyH_take (i := 7) (oi := ?_) (v := undef) ?_ ?_ ?_ ?_ ?_ ?_ ?_ ?_; rotate_left 1; rfl; kernel_rfl; kernel_rfl; kernel_rfl; exact (fun _ _ _ h => h)
    · exact Or.inr ⟨by rfl, rfl⟩
    · assumption
    try simp only [Act.put]
    refine wpAnyH_take (i := 8) (oi := ?_) (v := undef) ?_ ?_ ?_ ?_ ?_ ?_ ?_ ?_; rotate_left 1; rfl; kernel_rfl; kernel_rfl; kernel_rfl; exact (fun _ _ _ h => h)
    · exact Or.inr ⟨by rfl, rfl⟩
    · assumption
    try simp only [Act.put]
    refine wpAnyH_take (i := 9) (oi := ?_) (v := undef) ?_ ?_ ?_ ?_ ?_ ?_ ?_ ?_; rotate_left 1; rfl; kernel_rfl; kernel_rfl; kernel_rfl; exact (fun _ _ _ h => h)
    · exact Or.inr ⟨by rfl, rfl⟩
    · assumption
    try simp only [Act.put]
    refine wpAnyH_take (i := 10) (oi := ?_) (v := undef) ?_ ?_ ?_ ?_ ?_ ?_ ?_ ?_; rotate_left 1; rfl; kernel_rfl; kernel_rfl; kernel_rfl; exact (fun _ _ _ h => h)
    · exact Or.inr ⟨by rfl, rfl⟩
    · assumption
    try simp only [Act.put]
    refine wpAnyH_take (i := 11) (oi := ?_) (v := undef) ?_ ?_ ?_ ?_ ?_ ?_ ?_ ?_; rotate_left 1; rfl; kernel_rfl; kernel_rfl; kernel_rfl; exact (fun _ _ _ h => h)
    · exact Or.inr ⟨by rfl, rfl⟩
    · assumption
    try simp only [Act.put]
    refine wpAnyH_take (i := 12) (oi := ?_) (v := undef) ?_ ?_ ?_ ?_ ?_ ?_ ?_ ?_; rotate_left 1; rfl; kernel_rfl; kernel_rfl; kernel_rfl; exact (fun _ _ _ h => h)
    · exact Or.inr ⟨by rfl, rfl⟩
    · assumption
    try simp only [Act.put]
    refine wpAnyH_take (i := 13) (oi := ?_) (v := ?_) ?_ ?_ ?_ ?_ ?_ ?_ ?_ ?_; rotate_left 2; rfl; kernel_rfl; kernel_rfl; kernel_rfl; exact (fun _ _ _ h => h)
    · (refine Or.inl ⟨by rfl, ?_⟩; intro w hSw; (try dsimp only at hSw); go_simp; try (with_reducible rfl))
    · assumption
    try simp only [Act.put]
    refine wpAnyH_take (i := 15) (oi := ?_) (v := ?_) ?_ ?_ ?_ ?_ ?_ ?_ ?_ ?_; rotate_left 2; rfl; kernel_rfl; kernel_rfl; kernel_rfl; exact (fun _ _ _ h => h)
    · (refine Or.inl ⟨by rfl, ?_⟩; intro w hSw; (try dsimp only at hSw); go_simp; try (with_reducible rfl))
    · assumption
    try simp only [Act.put]
    refine wpAnyH_ready (rs := [16]) (by kernel_rfl) (by simp) ?_
    refine AllReadyH.cons (o := ?_) ?_ ?_ AllReadyH.nil; rotate_left 1; rfl
    intro K hK
    go_simp
    refine hK.out _ _ (held4_alloc hHeld (Nat.le_refl _) _) (fun hHeld => ?_)
    clear hK K
    try simp only [Act.put, List.setIfInBounds_toArray, List.set_cons_zero, List.set_cons_succ]
    refine wpAnyH_ready (rs := [17]) (by kernel_rfl) (by simp) ?_
    refine AllReadyH.cons (o := ?_) ?_ ?_ AllReadyH.nil; rotate_left 1; rfl
    intro K hK
    go_simp
    refine (first_two _ _ _ _ _ _).mono ?_
    rintro e w3 ⟨rfl, hb3⟩
    try (go_wp2_with fail)
    refine hK.out _ _ (held4_below hHeld (Nat.le_refl _) hb3) (fun hHeld => ?_)
    clear hK K
    try simp only [Act.put, List.setIfInBounds_toArray, List.set_cons_zero, List.set_cons_succ]
    refine wpAnyH_take (i := 18) (oi := ?_) (v := ?_) ?_ ?_ ?_ ?_ ?_ ?_ ?_ ?_; rotate_left 2; rfl; kernel_rfl; kernel_rfl; kernel_rfl; exact (fun _ _ _ h => h)
    · (refine Or.inl ⟨by rfl, ?_⟩; intro w hSw; (try dsimp only at hSw); go_simp; try (with_reducible rfl))
    · assumption
    try simp only [Act.put, List.setIfInBounds_toArray]
    refine wpAnyH_done (by kernel_rfl) ?_ _

    obtain ⟨hk1, hk2, hk3, hk4, hB3⟩ := hHeld
    have HB3 := Lib.hid (HB.out.trans (hB3.mono HB.out.size))
    have HM3 := Lib.hid (show Mo n U w w3 from .of_below HB3.out rfl HL.out.2.1)
    have hsz3 : w.heap.size + 2 ≤ w3.heap.size := by have := hB3.size; omega
    have HL3 := Lib.hid (HL.out.below HB3.out (Nat.le_refl _))
    have HI3 := Lib.hid (HL.out.toIn.below HB3.out)
    clear hs1 hs2 hs3 hs4 hB3 hb hb3 hsz
    cases b1 with
    | true =>
      simp only [firstV, if_true, Bool.false_eq_true, if_false]
      go_wp2
      refine close_door n U _ _ _ _ s _ HL3.out hk2 hk3 _ _ ?_
      exact RowPost.bad (by rw [badRow, ← HB1.out]; rfl) (HM3.out.trans (Mo.setU _ _ _ _ _))
    | false =>
      simp only [firstV, Bool.false_eq_true, if_false]
      go_wp2_with fail
      refine wp_region_held_drew (S := fun W => W.cell? ⟨w.heap.size + 1, 0, none⟩ = some (.string s) ∧ W.cell? ⟨w.heap.size, 0, none⟩ = some (.pointer (some ⟨U, 0, none⟩))) (by kernel_rfl) (⟨hk2, hk3⟩) (fun hHeld => ?_)
      refine wpAnyH_take (i := 0) (oi := ?_) (v := ?_) ?_ ?_ ?_ ?_ ?_ ?_ ?_ ?_; rotate_left 2; rfl; kernel_rfl; kernel_rfl; kernel_rfl; exact (fun _ _ _ h => h)
      · (refine Or.inl ⟨by rfl, ?_⟩; intro w hSw; (try dsimp only at hSw); go_simp; try (with_reducible rfl))
      · assumption
      try simp only [Act.put, List.setIfInBounds_toArray]
      refine wpAnyH_take (i := 1) (oi := ?_) (v := ?_) ?_ ?_ ?_ ?_ ?_ ?_ ?_ ?_; rotate_left 2; rfl; kernel_rfl; kernel_rfl; kernel_rfl; exact (fun _ _ _ h => h)
      · (refine Or.inl ⟨by rfl, ?_⟩; intro w hSw; (try dsimp only at hSw); go_simp; try (with_reducible rfl))
      · assumption
      try simp only [Act.put]
      refine wpAnyH_take (i := 2) (oi := ?_) (v := ?_) ?_ ?_ ?_ ?_ ?_ ?_ ?_ ?_; rotate_left 2; rfl; kernel_rfl; kernel_rfl; kernel_rfl; exact (fun _ _ _ h => h)
      · (refine Or.inl ⟨by rfl, ?_⟩; intro w hSw; (try dsimp only at hSw); go_simp; try (with_reducible rfl))
      · assumption
      try simp only [Act.put]
      refine wpAnyH_take (i := 3) (oi := ?_) (v := ?_) ?_ ?_ ?_ ?_ ?_ ?_ ?_ ?_; rotate_left 2; rfl; kernel_rfl; kernel_rfl; kernel_rfl; exact (fun _ _ _ h => h)
      · (refine Or.inl ⟨by rfl, ?_⟩; intro w hSw; (try dsimp only at hSw); go_simp; try (with_reducible rfl))
      · assumption
      try simp only [Act.put]
      refine wpAnyH_ready (rs := [4]) (by kernel_rfl) (by simp) ?_
      refine AllReadyH.cons (o := ?_) ?_ ?_ AllReadyH.nil; rotate_left 1; rfl
      intro K hK
      go_simp
      refine (begin_any n U l op s w3.drew w.heap.size HI3.out (by omega)).mono ?_
      rintro e w4 ⟨rfl, hL4, hM4, hK4⟩
      try (go_wp2_with fail)
      refine hK.out _ _ (⟨(World.cell?_of_block (hK4 _ (Nat.le_succ _) (show w.heap.size + 1 < w3.heap.size by omega))).trans hk2, (World.cell?_of_block (hK4 _ (Nat.le_refl _) (show w.heap.size < w3.heap.size by omega))).trans hk3⟩) (fun hHeld => ?_)
      clear hK K
      try simp only [Act.put, List.setIfInBounds_toArray, List.set_cons_zero, List.set_cons_succ]
      refine wpAnyH_done (by kernel_rfl) ?_ _
      obtain ⟨hj2, hj3⟩ := hHeld
      have HL4 := Lib.hid hL4
      have HM4 := Lib.hid hM4
      clear hk2 hk3 hk4 hL4 hM4 hK4
      go_wp2
      refine close_door n U _ _ _ _ s _ HL4.out hj2 hj3 _ _ ?_
      refine RowPost.ok (by rw [badRow, ← HB1.out, ← HPM.out]; rfl) ((HM3.out.trans (Mo.trans (.of_below (Below.refl _ w3).drew rfl (Nat.le_trans HL.out.2.1 HB3.out.size)) HM4.out)).trans (Mo.setU _ _ _ _ _)) ?_
      rw [addRow, ← HPM.out]
      exact HL4.out.setOpen _

end Go.Proofs.YtbocflglknkiaaaGreatDoor
