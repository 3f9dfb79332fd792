/- fold.unfold: a text's lines. -/
import Derived.Test.YtbocflglknkiaaaGreatDoorRow
import Derived.OwnWalkIn
namespace Go.Proofs.YtbocflglknkiaaaGreatDoor
open Go.RowKit Go.Shelf
attribute [local go_sem] Oper.semAt_some

def asB (l : List UInt8) : ByteArray := ⟨l.toArray⟩
def stepU (st : Option (List ByteArray × Bool)) (r : List UInt8) : Option (List ByteArray × Bool) :=
  st.bind fun q => if badRow q.2 (asB r) then none else some (addRow q.1 (asB r), !(asB r).toList.isEmpty)
/-- The lines under way, when some rows have gone by. -/
def stU (rows : List (List UInt8)) (pre : List Nat) : Option (List ByteArray × Bool) := pre.foldl (fun st i => stepU st (rows.getD i [])) (some ([], false))
theorem stU_snoc (rows : List (List UInt8)) (pre : List Nat) (x : Nat) : stU rows (pre ++ [x]) = stepU (stU rows pre) (rows.getD x []) := by simp [stU]
theorem stU_append_none (rows : List (List UInt8)) (pre r : List Nat) (h : stU rows pre = none) : stU rows (pre ++ r) = none := by
  unfold stU at h ⊢
  rw [List.foldl_append, h]
  induction r with
  | nil => rfl
  | cons a r ih => simpa [stepU] using ih
theorem stU_range (rows : List (List UInt8)) : stU rows (List.range rows.length) = rows.foldl stepU (some ([], false)) := by
  unfold stU
  rw [← List.foldl_map (f := fun i => rows.getD i []) (g := stepU)]
  congr 1
  apply List.ext_getElem
  · simp
  · intro i h1 h2
    simp at h1
    simp [h1]
theorem asB_size (l : List UInt8) : (asB l).size = l.length := size_mk l
theorem addRow_length (l : List ByteArray) (s : ByteArray) : (addRow l s).length ≤ l.length + 1 := by
  unfold addRow
  split <;> simp
theorem addRow_last (l : List ByteArray) (s : ByteArray) : ((addRow l s).getLastD ⟨#[]⟩).size ≤ (l.getLastD ⟨#[]⟩).size + s.size := by
  unfold addRow
  split
  · simp [ByteArray.size_append]
  · simp
theorem addRow_ne (l : List ByteArray) (s : ByteArray) : addRow l s ≠ [] := by
  unfold addRow
  split <;> simp
theorem rowsL_length : ∀ (n : Nat) (s : List UInt8), s.length ≤ n → (rowsL s).length ≤ s.length
  | 0, s, h => by
    obtain rfl := List.length_eq_zero_iff.1 (Nat.le_zero.1 h)
    simp [rowsL_nil]
  | n + 1, s, h => by
    by_cases hs : s = []
    · subst hs; simp [rowsL_nil]
    · rw [rowsL_cons hs, List.length_cons]
      have := restOf_lt hs
      have := rowsL_length n (restOf s) (by omega)
      omega
theorem rowsL_le : ∀ (n : Nat) (s : List UInt8), s.length ≤ n → ∀ r, r ∈ rowsL s → r.length ≤ s.length
  | 0, s, h, r, hr => by
    obtain rfl := List.length_eq_zero_iff.1 (Nat.le_zero.1 h)
    simp [rowsL_nil] at hr
  | n + 1, s, h, r, hr => by
    by_cases hs : s = []
    · subst hs; simp [rowsL_nil] at hr
    · rw [rowsL_cons hs, List.mem_cons] at hr
      have h1 := restOf_lt hs
      rcases hr with rfl | hr
      · exact rowOf_le s
      · have := rowsL_le n (restOf s) (by omega) r hr
        omega
theorem rowsL_getD_le (s : List UInt8) (i : Nat) : ((rowsL s).getD i []).length ≤ s.length := by
  rw [List.getD_eq_getElem?_getD]
  cases h : (rowsL s)[i]? with
  | none => simp
  | some r => exact rowsL_le _ s (Nat.le_refl _) r (List.mem_of_getElem? h)

/-- What unfold says of a text: its lines; or an error (the variable's number) at a row. -/
inductive UF where
  | ok (l : List ByteArray)
  | bad (g : Nat)
def isNote (s : ByteArray) : Bool := Lib.hasPrefix s.data.toList [35]
def unfoldL (s : ByteArray) : UF :=
  if 8000 < s.size then .bad 0 else
  match (rowsL s.data.toList).foldl stepU (some ([], false)) with
  | none => .bad 1
  | some q => .ok (q.1.filter fun x => !isNote x)
/-- A slice that holds some texts. -/
def Texts (n : Nat) (v : Value) (l : List ByteArray) (w : World) : Prop := w.ownsRow n 9 1 v l.length (l.map Value.string)
def UfPost (G : Nat → Addr) (s : ByteArray) (w : World) (e : Ending) (w' : World) : Prop :=
  Below w.heap.size w w' ∧ match unfoldL s with
    | .ok l => ∃ v, e = .returned (.tuple #[v, .nilIface]) ∧ Texts w.heap.size v l w'
    | .bad g => ∃ i, e = .returned (.tuple #[.slice none 0 0, wrongV G i g])

theorem LinesAt.ck {n U : Nat} {l : List ByteArray} {op : Bool} {w w' : World} (h : LinesAt n U l op w) (hk : CK w w') (hs : w.heap.size ≤ w'.heap.size) : LinesAt n U l op w' := by
  obtain ⟨h1, h2, v, t, h3, h4⟩ := h
  refine ⟨h1, Nat.le_trans h2 hs, v, t, hk _ _ _ _ h3, h4.1, ?_⟩
  rcases h4.2 with h4 | ⟨g, cap, cur, e1, e2, e3, e4⟩
  · exact .inl h4
  · exact .inr ⟨g, cap, cur, e1, e2, hk _ _ _ _ e3, e4⟩

/-- Between two rounds. -/
def UI (rows : List (List UInt8)) (A0 U : Nat) (n : Nat) (pre : List Nat) (W : World) : Prop :=
  (W.heap[A0]? = some (.cells #[.slice none 0 0] 26 (0, 0)) ∧ W.heap[A0 + 1]? = some (.cells #[.nilIface] 39 (0, 0)) ∧ W.heap[U + 1]? = some (.cells #[.pointer (some ⟨U, 0, none⟩)] 72 (0, 0))) ∧
  ∃ l op, stU rows pre = some (l, op) ∧ LinesAt n U l op W ∧ (op = true → l ≠ []) ∧ l.length ≤ pre.length ∧ (l.getLastD ⟨#[]⟩).size ≤ pre.length * 8000
def UX (G : Nat → Addr) (rows : List (List UInt8)) (A0 : Nat) (pre : List Nat) (W : World) : Prop :=
  stU rows pre = none ∧ W.cell? ⟨A0, 0, none⟩ = some (.slice none 0 0) ∧ ∃ i, W.cell? ⟨A0 + 1, 0, none⟩ = some (wrongV G i 1)
theorem UI.ck {rows : List (List UInt8)} {A0 U n : Nat} {pre : List Nat} {W W' : World} (h : UI rows A0 U n pre W) (hk : CK W W') (hs : W.heap.size ≤ W'.heap.size) : UI rows A0 U n pre W' := by
  obtain ⟨⟨h1, h2, h3⟩, l, op, h4, h5, h6⟩ := h
  exact ⟨⟨hk _ _ _ _ h1, hk _ _ _ _ h2, hk _ _ _ _ h3⟩, l, op, h4, h5.ck hk hs, h6⟩
theorem UI.exc {rows : List (List UInt8)} {A0 U n B : Nat} {pre : List Nat} {W W' : World} (h : UI rows A0 U n pre W) (he : Exc [B] W W') (h0 : A0 + 1 < B) (hU : U + 1 < B) (hn : B < n) : UI rows A0 U n pre W' := by
  obtain ⟨⟨h1, h2, h3⟩, l, op, h4, h5, h6⟩ := h
  exact ⟨⟨he.heap h1 (by simp; omega), he.heap h2 (by simp; omega), he.heap h3 (by simp; omega)⟩, l, op, h4, h5.exc he (by simp; omega) (by simp; omega), h6⟩
theorem UX.ck {G : Nat → Addr} {rows : List (List UInt8)} {A0 : Nat} {pre : List Nat} {W W' : World} (h : UX G rows A0 pre W) (hk : CK W W') : UX G rows A0 pre W' := by
  obtain ⟨h1, h2, i, h3⟩ := h
  exact ⟨h1, hk.cell h2, i, hk.cell h3⟩
theorem UX.exc {G : Nat → Addr} {rows : List (List UInt8)} {A0 B : Nat} {pre : List Nat} {W W' : World} (h : UX G rows A0 pre W) (he : Exc [B] W W') (h0 : A0 + 1 < B) : UX G rows A0 pre W' := by
  obtain ⟨h1, h2, i, h3⟩ := h
  exact ⟨h1, he.cell h2 (by simp; omega), i, he.cell h3 (by simp; omega)⟩
theorem own_ui (rows : List (List UInt8)) (A0 U n : Nat) : Own (UI rows A0 U n) :=
  fun _ _W _W' _ hs hg hr => hs.ck (fun _ _ _ _ hk => (grownBy_keeps_cells hg hr hk rfl).trans hk) hg.size

theorem kpR_b {n0 B : Nat} {w : World} (hB : B < w.heap.size) (hn : n0 ≤ w.heap.size) (W : World) (r : Nat) (o o' : Obj) (hr : w.heap.size ≤ r) (ho : W.heap[r]? = some o) (h1 : o.isCells = false) (h2 : o.isWalk = false) : KpR n0 B W (W.putObj r o') :=
  ⟨keepB_b (by simpa using hB) W r o o' hr ho h1 h2, ⟨rfl, rfl, rfl, by simp [World.putObj], fun k hk => World.putObj_heap_other (by omega)⟩⟩

theorem texts_end {n m A D : Nat} {v : Value} {l : List ByteArray} {w : World} (h : w.ownsRow n 9 1 v l.length (l.map Value.string)) (hm : m ≤ n) (hA : A + 1 < n) (hD : D < n) (x y : Value) (o : Obj) :
    Texts m v l (((w.setCell ⟨A, 0, none⟩ x).setCell ⟨A + 1, 0, none⟩ y).putObj D o) := by
  refine ⟨h.1, ?_⟩
  rcases h.2 with h0 | ⟨g, cap, cur, e1, e2, e3, e4⟩
  · exact .inl h0
  · refine .inr ⟨g, cap, cur, e1, by omega, ?_, e4⟩
    rw [World.putObj_heap_other (by omega), heap_setCell_other _ _ _ _ (by simp; omega), heap_setCell_other _ _ _ _ (by simp; omega)]
    exact e3
theorem filter_take {l : List ByteArray} {p : ByteArray → Bool} {k : Nat} (h : k < l.length) : (l.take (k + 1)).filter p = (l.take k).filter p ++ if p (l.getD k ⟨#[]⟩) then [l.getD k ⟨#[]⟩] else [] := by
  rw [List.take_add_one, List.filter_append]
  congr 1
  simp [h]
  rw [List.filter_cons]
  rfl

set_option maxHeartbeats 8000000 in
theorem unfold_any (G : Nat → Addr) (s : ByteArray) (hs : s.size ≤ 1000000) (w : World) (hE : Env G w) :
    Calls Tryz.prog 23 #[.string s] w (UfPost G s w) := by
  refine (callsIn_wide (n := 9)).1 ?_
  refine callsIn_of_wp_marks Tryz.func23 rfl trivial ?_ rfl
  simp only [Tryz.ntmps23, List.size_toArray, List.length_cons, List.length_nil, Nat.reduceAdd, Nat.reduceSub, Array.replicate_succ, Array.replicate_zero, List.push_toArray, List.append_toArray, List.nil_append, List.cons_append]
  have HE := Lib.hid hE
  have hb00 : Below w.heap.size w ((w.alloc (.cells #[.slice none 0 0] 26)).alloc (.cells #[.nilIface] 39)) := ((Below.refl _ w).alloc (Nat.le_refl _) _).alloc (by simp) _
  have hc0 := (hE.below hb00).s_fold_errLarge.cell
  have HB0 := Lib.hid hb00
  clear hE hb00
  by_cases hbig : 8000 < s.size
  · have e0 : decide ((8000 : Int) < (s.size : Int)) = true := by simp; omega
    have Hv := Lib.hid (show unfoldL s = .bad 0 by unfold unfoldL; rw [if_pos hbig])
    have hfst := first_one 0 true (G 0) ((w.alloc (.cells #[.slice none 0 0] 26)).alloc (.cells #[.nilIface] 39))
    simp only [World.size_alloc] at hfst
    have Hf := Lib.hid hfst
    clear hbig hfst
    gi_wp2_with fail
    refine ⟨trivial, ?_⟩
    refine (callsIn_wide.2 Hf.out).mono ?_
    rintro e w1 ⟨rfl, hB1⟩
    have hz1 : w.heap.size + 3 ≤ w1.heap.size := by simpa using hB1.size
    have hr2 : w1.heap[w.heap.size]? = some (.cells #[.slice none 0 0] 26 (0, 0)) := (hB1.block _ (by omega)).trans ((heap_alloc_old _ _ _ (by simp; omega)).trans (heap_alloc2_old _ _ _))
    have hr3 : w1.heap[w.heap.size + 1]? = some (.cells #[.nilIface] 39 (0, 0)) := (hB1.block _ (by omega)).trans ((heap_alloc_old _ _ _ (by simp)).trans (heap_alloc2_new _ _ _))
    have HBw := Lib.hid (show Below w.heap.size w w1 from (HB0.out.alloc (by simp; omega) _).trans (hB1.mono (by omega)))
    have c6 := Lib.cell_of_heap hr2 0
    have c7 := Lib.cell_of_heap hr3 0
    have f6 := Lib.frozen_of_heap hr2 0
    have f7 := Lib.frozen_of_heap hr3 0
    simp only [List.getElem?_toArray, List.getElem?_cons_zero] at c6 c7
    clear hB1 hr2 hr3 hc0
    simp only [firstV, if_true]
    gi_wp2
    refine ⟨.tuple #[.slice none 0 0, wrongV G 0 0], ?_, ?_, ?_⟩
    · have g2 : ((w1.setCell ⟨w.heap.size, 0, none⟩ (.slice none 0 0)).setCell ⟨w.heap.size + 1, 0, none⟩ (wrongV G 0 0)).cell? ⟨w.heap.size, 0, none⟩ = some (.slice none 0 0) := by rw [World.cell?_setCell_other _ _ _ _ (by simp), World.cell?_setCell_same _ _ _ c6]
      have g3 : ((w1.setCell ⟨w.heap.size, 0, none⟩ (.slice none 0 0)).setCell ⟨w.heap.size + 1, 0, none⟩ (wrongV G 0 0)).cell? ⟨w.heap.size + 1, 0, none⟩ = some (wrongV G 0 0) := by rw [World.cell?_setCell_same _ _ _ (u := .nilIface) (by rw [World.cell?_setCell_other _ _ _ _ (by simp)]; exact c7)]
      have eW : (Value.iface 54 (.agg #[.int .i64 0, .iface 159 (.pointer (some (G 0)))])) = wrongV G 0 0 := rfl
      rw [eW]
      simp [results, Tryz.results23, go_sem, g2, g3]
    · exact (HBw.out.setCell (p := ⟨w.heap.size, 0, none⟩) (Nat.le_refl _) _).setCell (p := ⟨w.heap.size + 1, 0, none⟩) (by simp) _
    · rw [Hv.out]
      exact ⟨0, rfl⟩
  · have e0 : decide ((8000 : Int) < (s.size : Int)) = false := by simp; omega
    have hfst := first_one 0 false (G 0) ((w.alloc (.cells #[.slice none 0 0] 26)).alloc (.cells #[.nilIface] 39))
    simp only [World.size_alloc] at hfst
    have Hf := Lib.hid hfst
    have hbig' : s.size ≤ 8000 := by omega
    clear hbig hfst
    gi_wp2_with fail
    refine ⟨trivial, ?_⟩
    refine (callsIn_wide.2 Hf.out).mono ?_
    rintro e w1 ⟨rfl, hB1⟩
    have hz1 : w.heap.size + 3 ≤ w1.heap.size := by simpa using hB1.size
    have hr2 : w1.heap[w.heap.size]? = some (.cells #[.slice none 0 0] 26 (0, 0)) := (hB1.block _ (by omega)).trans ((heap_alloc_old _ _ _ (by simp; omega)).trans (heap_alloc2_old _ _ _))
    have hr3 : w1.heap[w.heap.size + 1]? = some (.cells #[.nilIface] 39 (0, 0)) := (hB1.block _ (by omega)).trans ((heap_alloc_old _ _ _ (by simp)).trans (heap_alloc2_new _ _ _))
    have HBw := Lib.hid (show Below w.heap.size w w1 from (HB0.out.alloc (by simp; omega) _).trans (hB1.mono (by omega)))
    clear hB1 hc0
    simp only [firstV, Bool.false_eq_true, if_false]
    gi_wp2_with fail
    obtain ⟨W1, hW1⟩ : ∃ W1, W1 = (w1.alloc (.cells #[.slice none 0 0, .bool false] 76)).alloc (.cells #[.pointer (some ⟨w1.heap.size, 0, none⟩)] 72) := ⟨_, rfl⟩
    rw [← hW1]
    have hzW : W1.heap.size = w1.heap.size + 2 := by rw [hW1]; simp
    have hBW : Below w.heap.size w W1 := by rw [hW1]; exact (HBw.out.alloc (by omega) _).alloc (by simp; omega) _
    have hU : W1.heap[w1.heap.size]? = some (.cells #[.slice none 0 0, .bool false] 76 (0, 0)) := by rw [hW1]; exact heap_alloc2_old _ _ _
    have hP : W1.heap[w1.heap.size + 1]? = some (.cells #[.pointer (some ⟨w1.heap.size, 0, none⟩)] 72 (0, 0)) := by rw [hW1]; exact heap_alloc2_new _ _ _
    have hr2' : W1.heap[w.heap.size]? = some (.cells #[.slice none 0 0] 26 (0, 0)) := by rw [hW1, heap_alloc_old _ _ _ (by simp; omega), heap_alloc_old _ _ _ (by omega)]; exact hr2
    have hr3' : W1.heap[w.heap.size + 1]? = some (.cells #[.nilIface] 39 (0, 0)) := by rw [hW1, heap_alloc_old _ _ _ (by simp; omega), heap_alloc_old _ _ _ (by omega)]; exact hr3
    have HzW := Lib.hid hzW
    clear hW1 hr2 hr3 hzW
    refine ⟨trivial, ?_⟩
    refine (callsIn_wide.2 (rows_any s W1)).mono ?_
    rintro e w2 ⟨rfl, rfl⟩
    gi_wp2_with fail
    have hzW := HzW.out
    obtain ⟨W2, hW2⟩ : ∃ W2, W2 = W1.alloc (.cells #[.string s] 9) := ⟨_, rfl⟩
    rw [← hW2]
    have hz2 : W2.heap.size = W1.heap.size + 1 := by rw [hW2]; simp
    have hB2 : Below W1.heap.size W1 W2 := by rw [hW2]; exact (Below.refl _ _).alloc (Nat.le_refl _) _
    have hbx : W2.heap[W1.heap.size]? = some (.cells #[.string s] 9 (0, 0)) := by rw [hW2]; exact heap_alloc_new _ _
    have hbc := (Lib.cell_of_heap hbx 0).trans (show _ = some (Value.string s) from rfl)
    have hbf := Lib.frozen_of_heap hbx 0
    have hBW2 : Below w.heap.size w W2 := hBW.trans (hB2.mono hBW.size)
    have kk : ∀ {k : Nat} {o : Obj}, W1.heap[k]? = some o → W2.heap[k]? = some o := fun {k o} h => (hB2.block k (Array.getElem?_eq_some_iff.1 h).1).trans h
    have hI0 : UI (rowsL s.data.toList) w.heap.size w1.heap.size (W1.heap.size + 1) [] W2 :=
      ⟨⟨kk hr2', kk hr3', kk hP⟩, [], false, rfl, ⟨by omega, by omega, .slice none 0 0, _, kk hU, World.ownsRow_nil _ _ _ _⟩, by simp, by simp, Nat.le_of_eq rfl⟩
    have hseq := rows1_stops G 8 W1.heap.size s (by omega) w W2 HE.out hBW2 (by omega) hbc hbf
    have HI0 := Lib.hid hI0
    have HSQ := Lib.hid hseq
    clear hbx hW2 hbc hbf hB2 kk hI0 hr2' hr3' hU hP hseq hBW
    refine range_over rfl (by omega) (gf := 59) (lb := #[.pointer (some ⟨W1.heap.size, 0, none⟩)]) rfl trivial (enters_of Tryz.func59 (by kernel_rfl) rfl)
      HSQ.out (by simp; omega) (fun h k => ⟨h.1.trans k.1, h.2.trans k.2⟩) (kpR_b (by omega) (by omega)) (Below.refl _ _) (fun _ => rfl)
      (fun pre W => UI (rowsL s.data.toList) w.heap.size w1.heap.size (W1.heap.size + 1) pre W ∧ Below w.heap.size w W)
      (fun c pre W => (c = .ret ∧ UX G (rowsL s.data.toList) w.heap.size pre W) ∧ Below w.heap.size w W)
      (OwnFrom.and (Own.from (own_ui _ _ _ _) _) (ownFrom_below (Nat.le_refl _) (by omega)))
      (fun c => OwnFrom.and (Own.from (own_of_ck fun pre A B hk h => ⟨h.1, h.2.ck hk⟩) _) (ownFrom_below (Nat.le_refl _) (by omega)))
      (fun pre A B h he => ⟨h.1.exc he (by omega) (by omega) (by omega), he.below h.2 (by simp; omega) (by have := h.2.size; omega)⟩)
      (fun c pre A B h he => ⟨⟨h.1.1, h.1.2.exc he (by omega)⟩, he.below h.2 (by simp; omega) (by have := h.2.size; omega)⟩)
      ⟨HI0.out, hBW2⟩ ?a1 ?assign ?body ?done ?stop
    case assign =>
      intro l x W K hK
      simp only [rowV]
      gi_wp2
      exact hK
    case body =>
      rintro l pre x W ⟨⟨⟨h1, h2, h3⟩, ls, op, h4, h5, h6, h7, h8⟩, hB⟩ hlen
      have hc := (Lib.cell_of_heap h3 0).trans (show _ = some (Value.pointer (some ⟨w1.heap.size, 0, none⟩)) from rfl)
      have hN := rowsL_length _ s.data.toList (Nat.le_refl _)
      have hrl := rowsL_getD_le s.data.toList x
      have hs8 : s.data.toList.length = s.size := by simp
      have hrow := row_any G (W1.heap.size + 1) w1.heap.size ls op (x : Int) (asB ((rowsL s.data.toList).getD x [])) (by rw [asB_size]; omega) W (HE.out.below hB) h5 (by omega) h6 (by rw [asB_size]; omega)
      have hst := stU_snoc (rowsL s.data.toList) pre x
      rw [h4] at hst
      obtain ⟨row, hrw⟩ : ∃ r, r = (rowsL s.data.toList).getD x [] := ⟨_, rfl⟩
      rw [← hrw] at hrow hst hrl
      have ha := addRow_length ls (asB row)
      have hb := addRow_last ls (asB row)
      have hn := addRow_ne ls (asB row)
      rw [asB_size] at hb
      have HA := Lib.hid (show (addRow ls (asB row)).length ≤ (pre ++ [x]).length ∧ ((addRow ls (asB row)).getLastD ⟨#[]⟩).size ≤ (pre ++ [x]).length * 8000 from by
        rw [List.length_append, List.length_singleton]; omega)
      have Hrow := Lib.hid hrow
      have H1 := Lib.hid h1
      have H2 := Lib.hid h2
      have H3 := Lib.hid h3
      have HRW := Lib.hid (show (rowsL s.data.toList)[x]?.getD [] = row from by rw [hrw, List.getD_eq_getElem?_getD])
      clear hrow h1 h2 h3 hrw h4 h5 h6 h7 h8 hN hrl hs8 ha hb HI0 HSQ hlen
      cases hbad : badRow op (asB row) with
      | false =>
        have Hst := Lib.hid (show stU (rowsL s.data.toList) (pre ++ [x]) = some (addRow ls (asB row), !(asB row).toList.isEmpty) by rw [hst, stepU]; simp [hbad])
        have Hb := Lib.hid hbad
        clear hst hbad
        gi_wp2_with fail
        rw [HRW.out]
        refine ⟨trivial, ?_⟩
        refine (CallsIn.inRound l (callsIn_wide.2 Hrow.out)).mono ?_
        rintro e W2 ⟨hM, he⟩
        rw [if_neg (by rw [Hb.out]; simp)] at he
        obtain ⟨rfl, hL⟩ := he
        have HM := Lib.hid hM
        have HL := Lib.hid hL
        clear hM hL
        gi_wp2
        refine ⟨HM.out.others, ⟨?_, HM.out.below (Below.refl _ _) (by omega) (by omega)⟩, ⟨⟨?_, ?_, ?_⟩, _, _, Hst.out, HL.out, fun _ => hn, HA.out⟩, HM.out.below hB (by omega) (by omega)⟩
        · intro k hk
          obtain rfl : k = W1.heap.size := by simpa using hk
          exact HM.out.block _ (by omega) (by omega)
        · exact (HM.out.block _ (by omega) (by omega)).trans H1.out
        · exact (HM.out.block _ (by omega) (by omega)).trans H2.out
        · exact (HM.out.block _ (by omega) (by omega)).trans H3.out
      | true =>
        have Hst := Lib.hid (show stU (rowsL s.data.toList) (pre ++ [x]) = none by rw [hst, stepU]; simp [hbad])
        have Hb := Lib.hid hbad
        clear hst hbad
        gi_wp2_with fail
        rw [HRW.out]
        refine ⟨trivial, ?_⟩
        refine (CallsIn.inRound l (callsIn_wide.2 Hrow.out)).mono ?_
        rintro e W2 ⟨hM, he⟩
        rw [if_pos Hb.out] at he
        subst he
        have e1 := (hM.block (w.heap.size) (by omega) (by omega)).trans H1.out
        have e2 := (hM.block (w.heap.size + 1) (by omega) (by omega)).trans H2.out
        have c6 := Lib.cell_of_heap e1 0
        have c7 := Lib.cell_of_heap e2 0
        have f6 := Lib.frozen_of_heap e1 0
        have f7 := Lib.frozen_of_heap e2 0
        simp only [List.getElem?_toArray, List.getElem?_cons_zero] at c6 c7
        have HM := Lib.hid hM
        clear hM e1 e2
        unfold wrongV
        gi_wp2
        have eW : (Value.iface 54 (.agg #[.int .i64 (x : Int), .iface 159 (.pointer (some (G 1)))])) = wrongV G x 1 := rfl
        refine ⟨(HM.out.others.trans (KeepsOthers.setCell _ _ _)).trans (KeepsOthers.setCell _ _ _), ⟨rfl, Hst.out, ?_, ⟨(x : Int), ?_⟩⟩, ?_⟩
        · rw [World.cell?_setCell_other _ _ _ _ (by simp), World.cell?_setCell_same _ _ _ c6]
        · rw [eW, World.cell?_setCell_same _ _ _ (u := .nilIface) (by rw [World.cell?_setCell_other _ _ _ _ (by simp)]; exact c7)]
        · exact ((HM.out.below hB (by omega) (by omega)).setCell (p := ⟨w.heap.size, 0, none⟩) (Nat.le_refl _) _).setCell (p := ⟨w.heap.size + 1, 0, none⟩) (by simp) _
    case done =>
      rintro D ys W hD rfl ⟨⟨⟨h1, h2, h3⟩, ls, op, h4, ⟨_, _, v, t, h5, h6⟩, _, h7, _⟩, hB⟩ hK
      have hN := rowsL_length _ s.data.toList (Nat.le_refl _)
      have hs8 : s.data.toList.length = s.size := by simp
      rw [List.length_range] at h7
      have hll : ls.length ≤ 8000 := by omega
      have hu : unfoldL s = .ok (ls.filter fun x => !isNote x) := by
        unfold unfoldL
        rw [if_neg (by omega), ← stU_range, h4]
      have hc := (Lib.cell_of_heap h3 0).trans (show _ = some (Value.pointer (some ⟨w1.heap.size, 0, none⟩)) from rfl)
      obtain ⟨a, cap, rfl, hel⟩ : ∃ a cap, v = .slice a ls.length cap ∧ ∀ k, k < ls.length → ∃ g, a = some ⟨g, 0, none⟩ ∧ g < W.heap.size ∧ W.cell? ⟨g, k, none⟩ = some (.string (ls.getD k ⟨#[]⟩)) := by
        rcases h6.2 with ⟨rfl, h0⟩ | ⟨g, cap, cur, rfl, _, hg, _, _, _, htk⟩
        · exact ⟨none, 0, by rw [h0], fun k hk => by omega⟩
        · refine ⟨some ⟨g, 0, none⟩, cap, rfl, fun k hk => ⟨g, rfl, (Array.getElem?_eq_some_iff.1 hg).1, ?_⟩⟩
          rw [Lib.cell_of_heap hg]
          have h8 : (cur.toList.take (ls.length * 1))[k]? = some (.string (ls.getD k ⟨#[]⟩)) := by rw [htk]; simp [hk]
          rw [List.getElem?_take] at h8
          simpa [hk] using h8
      have hcU := (Lib.cell_of_heap h5 0).trans (show _ = some (Value.slice a ls.length cap) from rfl)
      have Hu := Lib.hid hu
      have Hel := Lib.hid hel
      have H1 := Lib.hid h1
      have H2 := Lib.hid h2
      have HK := Lib.hid hK
      have hDw : w.heap.size + 2 ≤ D := by omega
      clear hu hel h1 h2 h3 h4 h5 h6 h7 hN hs8 HI0 HSQ hK hzW hz2 hz1
      obtain ⟨i0, hi, hz0, hz1, hz2⟩ := info_parts infoStr
      have HI := Lib.hid hi
      have HZ0 := Lib.hid hz0
      have HZ1 := Lib.hid hz1
      have HZ2 := Lib.hid hz2
      clear hi hz0 hz1 hz2
      gi_wp2
      gi_loopw [9, 11, 41] (fun v _ i wr => ∃ k : Nat, k ≤ ls.length ∧ i = .int .i64 k ∧ wr.ownsRow W.heap.size 9 1 v ((ls.take k).filter fun x => !isNote x).length (((ls.take k).filter fun x => !isNote x).map Value.string) ∧ Below W.heap.size W wr)
        (fun _ _ i _ => ls.length - (intOf i).toNat)
      case atStart => exact ⟨0, Nat.zero_le _, rfl, World.ownsRow_nil _ _ _ _, Below.refl _ _⟩
      case round =>
        obtain ⟨k, hk, rfl, hown, hBr⟩ := hrel
        have HO := Lib.hid hown
        have hcl : ((ls.take k).filter fun x => !isNote x).length ≤ 8000 := Nat.le_trans (List.length_filter_le _ _) (by simp; omega)
        clear hown
        by_cases hlt : k < ls.length
        · obtain ⟨g, rfl, hg, hx⟩ := Hel.out k hlt
          have hx' := (hBr.cell (p := ⟨g, k, none⟩) hg).trans hx
          have hft := filter_take (p := fun x => !isNote x) hlt
          obtain ⟨x, hxe⟩ : ∃ x, x = ls.getD k ⟨#[]⟩ := ⟨_, rfl⟩
          rw [← hxe] at hx' hft
          have Hpf := Lib.hid (fun W => (Tryz.strings_HasPrefix x ⟨#[35]⟩ W))
          have HB := Lib.hid hBr
          clear hx hxe hBr hcU hc Hel
          cases hnt : isNote x with
          | true =>
            rw [hnt] at hft
            have HF := Lib.hid (show (ls.take (k + 1)).filter (fun x => !isNote x) = (ls.take k).filter fun x => !isNote x by rw [hft]; simp)
            have Hnt := Lib.hid (show Lib.hasPrefix x.data.toList [35] = true from hnt)
            clear hft hnt
            gi_wp2_with fail
            refine ⟨trivial, ?_⟩
            refine (callsIn_wide.2 (Hpf.out _)).mono ?_
            rintro e w3 ⟨rfl, h3⟩
            obtain rfl := h3.symm
            simp only []
            rw [Hnt.out]
            gi_wp2
            go_roundw
            case rel => exact ⟨k + 1, by omega, by go_num, by rw [HF.out]; exact HO.out, HB.out⟩
            case measure => simp [intOf]; omega
          | false =>
            rw [hnt] at hft
            have HF := Lib.hid (show (ls.take (k + 1)).filter (fun x => !isNote x) = ((ls.take k).filter fun x => !isNote x) ++ [x] by rw [hft]; simp)
            have Hnt := Lib.hid (show Lib.hasPrefix x.data.toList [35] = false from hnt)
            clear hft hnt
            have hzr := HB.out.size
            gi_wp2_with fail
            refine ⟨trivial, ?_⟩
            refine (callsIn_wide.2 (Hpf.out _)).mono ?_
            rintro e w3 ⟨rfl, h3⟩
            obtain rfl := h3.symm
            simp only []
            rw [Hnt.out]
            gi_wp2_with (gi_at_builtin; refine wpListIn_append_own _ rfl _ _ 26 rfl W.heap.size 9 i0 (.string ⟨#[]⟩) 1 16 Tryz.underlying26 HI.out HZ0.out HZ1.out HZ2.out rfl (by decide) _ ((ls.take k).filter fun x => !isNote x).length (((ls.take k).filter fun x => !isNote x).map Value.string) rfl (HO.out.alloc _) ⟨wr.heap.size, 0, none⟩ 1 1 [.string x] rfl rfl ?c1 ?c2 ?c3 ?c4 ?c5 ?_)
            case c2 => rfl
            case c3 => unfold maxLen; omega
            case c4 => omega
            case c5 => omega
            intro v' w4 hown' hgrow _
            have HB4 := Lib.hid (show Below W.heap.size W w4 from (HB.out.alloc hzr _).grown hgrow (by simp; omega) (fun j hj => (HO.out.lt j hj).1))
            have HO4 := Lib.hid (show w4.ownsRow W.heap.size 9 1 v' (((ls.take (k + 1)).filter fun x => !isNote x)).length (((ls.take (k + 1)).filter fun x => !isNote x).map Value.string) by rw [HF.out]; simpa using hown')
            clear hown' hgrow
            gi_wp2
            go_roundw
            case rel => exact ⟨k + 1, by omega, by go_num, HO4.out, HB4.out⟩
            case measure => simp [intOf]; omega
        · obtain rfl : k = ls.length := by omega
          have hO2 := HO.out
          rw [List.take_length] at hO2
          have HO2 := Lib.hid hO2
          obtain ⟨g, cap2, hv⟩ : ∃ g cap2, u9 = .slice g (ls.filter fun x => !isNote x).length cap2 := by
            rcases hO2.2 with ⟨e, h0⟩ | ⟨g, c, cur, e, _⟩
            · exact ⟨none, 0, by rw [h0]; exact e⟩
            · exact ⟨_, _, e⟩
          subst hv
          have hK3 := (hBr.block D (Array.getElem?_eq_some_iff.1 HK.out).1).trans HK.out
          have hDz := (Array.getElem?_eq_some_iff.1 HK.out).1
          have e6 := (hBr.block _ (Array.getElem?_eq_some_iff.1 H1.out).1).trans H1.out
          have e7 := (hBr.block _ (Array.getElem?_eq_some_iff.1 H2.out).1).trans H2.out
          have hz7 := (Array.getElem?_eq_some_iff.1 H2.out).1
          have c6 := Lib.cell_of_heap e6 0
          have c7 := Lib.cell_of_heap e7 0
          have f6 := Lib.frozen_of_heap e6 0
          have f7 := Lib.frozen_of_heap e7 0
          simp only [List.getElem?_toArray, List.getElem?_cons_zero] at c6 c7
          have hBW3 : Below w.heap.size w wr := hB.trans (hBr.mono hB.size)
          have HBW3 := Lib.hid hBW3
          have HK3 := Lib.hid hK3
          clear hO2 HO e6 e7 hBr hcU hc Hel hBW3 hK3 hcl
          gi_wp2
          have hK4 : ((wr.setCell ⟨w.heap.size, 0, none⟩ (.slice g (ls.filter fun x => !isNote x).length cap2)).setCell ⟨w.heap.size + 1, 0, none⟩ .nilIface).heap[D]? = some (.deferred (some [])) := by
            rw [heap_setCell_other _ _ _ _ (by simp; omega), heap_setCell_other _ _ _ _ (by simp; omega)]; exact HK3.out
          refine ⟨by simp, .inl ⟨_, _, rfl, run_takeDeferred hK4, ?_⟩⟩
          have g2 : ((wr.setCell ⟨w.heap.size, 0, none⟩ (.slice g (ls.filter fun x => !isNote x).length cap2)).setCell ⟨w.heap.size + 1, 0, none⟩ .nilIface).cell? ⟨w.heap.size, 0, none⟩ = some (.slice g (ls.filter fun x => !isNote x).length cap2) := by rw [World.cell?_setCell_other _ _ _ _ (by simp), World.cell?_setCell_same _ _ _ c6]
          have g3 : ((wr.setCell ⟨w.heap.size, 0, none⟩ (.slice g (ls.filter fun x => !isNote x).length cap2)).setCell ⟨w.heap.size + 1, 0, none⟩ .nilIface).cell? ⟨w.heap.size + 1, 0, none⟩ = some .nilIface := by rw [World.cell?_setCell_same _ _ _ (u := .nilIface) (by rw [World.cell?_setCell_other _ _ _ _ (by simp)]; exact c7)]
          have g2' := cell_kept g2 (grownBy_putObj' _ D (.deferred none)) (fun r e => by cases e; exact ⟨_, hK4, rfl⟩)
          have g3' := cell_kept g3 (grownBy_putObj' _ D (.deferred none)) (fun r e => by cases e; exact ⟨_, hK4, rfl⟩)
          refine ⟨.tuple #[.slice g (ls.filter fun x => !isNote x).length cap2, .nilIface], by simp [results, Tryz.results23, go_sem, g2', g3'], ?_, ?_⟩
          · exact ((HBW3.out.setCell (p := ⟨w.heap.size, 0, none⟩) (Nat.le_refl _) _).setCell (p := ⟨w.heap.size + 1, 0, none⟩) (by simp) _).trans (belowK_b (w := w) (Nat.le_refl _) _ D _ _ (by omega) hK4 rfl rfl)
          · rw [Hu.out]
            exact ⟨_, rfl, texts_end HO2.out hB.size hz7 hDz _ _ _⟩
    case stop =>
      rintro D c pre W hD hpre ⟨⟨rfl, hn, h2, ⟨i, h3⟩⟩, hB⟩ hK
      have hu : unfoldL s = .bad 1 := by
        obtain ⟨r, hr⟩ := hpre
        unfold unfoldL
        rw [if_neg (by omega), ← stU_range, ← hr, stU_append_none _ _ _ hn]
      have g2 := cell_kept h2 (grownBy_putObj' W D (.deferred none)) (fun r e => by cases e; exact ⟨_, hK, rfl⟩)
      have g3 := cell_kept h3 (grownBy_putObj' W D (.deferred none)) (fun r e => by cases e; exact ⟨_, hK, rfl⟩)
      have Hu := Lib.hid hu
      clear hu hn h2 h3 HI0 HSQ
      gi_wp2
      refine ⟨by simp, .inl ⟨_, _, rfl, run_takeDeferred hK, ?_⟩⟩
      refine ⟨.tuple #[.slice none 0 0, wrongV G i 1], ?_, ?_, ?_⟩
      · simp [results, Tryz.results23, go_sem, g2, g3]
      · exact hB.trans (belowK_b (w := w) (Nat.le_refl _) W D _ _ (by omega) hK rfl rfl)
      · rw [Hu.out]
        exact ⟨i, rfl⟩
end Go.Proofs.YtbocflglknkiaaaGreatDoor
