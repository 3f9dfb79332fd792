/- fold.rows: the iterator over a text's rows. -/
import Derived.Test.YtbocflglknkiaaaGreatDoorFoldC
import Derived.Test.YtbocflglknkiaaaGreatDoorSeq
import Derived.Test.YtbocflglknkiaaaGreatDoorGroups
namespace Go.Proofs.YtbocflglknkiaaaGreatDoor
open Go.RowKit Go.Shelf
attribute [local go_sem] Oper.semAt_some

/-- The first row of a text, and what is behind it. -/
def rowOf (s : List UInt8) : List UInt8 := if (Lib.cut s [10]).2.2 then Lib.trimSuffix (Lib.cut s [10]).1 [13] else (Lib.cut s [10]).1
def restOf (s : List UInt8) : List UInt8 := (Lib.cut s [10]).2.1
def rowsF : Nat → List UInt8 → List (List UInt8)
  | 0, _ => []
  | n + 1, s => if s = [] then [] else rowOf s :: rowsF n (restOf s)
def rowsL (s : List UInt8) : List (List UInt8) := rowsF s.length s
theorem restOf_lt {s : List UInt8} (h : s ≠ []) : (restOf s).length < s.length := by
  have : 0 < s.length := List.length_pos_iff.2 h
  unfold restOf Lib.cut
  split
  · simp; omega
  · simpa using this
theorem rowsF_eq : ∀ (n : Nat) (s : List UInt8), s.length ≤ n → rowsF n s = rowsL s
  | 0, s, h => by
    obtain rfl := List.length_eq_zero_iff.1 (Nat.le_zero.1 h)
    rfl
  | n + 1, s, h => by
    by_cases hs : s = []
    · subst hs; rfl
    · have hlt := restOf_lt hs
      unfold rowsL
      obtain ⟨m, hm⟩ : ∃ m, s.length = m + 1 := ⟨s.length - 1, by have := List.length_pos_iff.2 hs; omega⟩
      rw [hm, rowsF, rowsF, if_neg hs, if_neg hs, rowsF_eq n _ (by omega), rowsF_eq m _ (by omega)]
theorem rowsL_nil : rowsL [] = [] := rfl
theorem rowsL_cons {s : List UInt8} (h : s ≠ []) : rowsL s = rowOf s :: rowsL (restOf s) := by
  have hlt := restOf_lt h
  conv => lhs; unfold rowsL
  obtain ⟨m, hm⟩ : ∃ m, s.length = m + 1 := ⟨s.length - 1, by have := List.length_pos_iff.2 h; omega⟩
  rw [hm, rowsF, if_neg h, rowsF_eq m _ (by omega)]
theorem rowOf_le (s : List UInt8) : (rowOf s).length ≤ s.length := by
  unfold rowOf Lib.trimSuffix Lib.cut
  repeat' split
  all_goals simp
  all_goals omega

theorem size_mk (l : List UInt8) : (⟨l.toArray⟩ : ByteArray).size = l.length := by simp [ByteArray.size]
def rowV (s : List UInt8) (i : Nat) : Array Value := #[.int .i64 (i : Int), .string ⟨((rowsL s).getD i []).toArray⟩]
def KpR (n0 B : Nat) (W W' : World) : Prop := KeepB [B] W W' ∧ Below n0 W W'

set_option maxHeartbeats 2000000 in
theorem rows1_stops (G : Nat → Addr) (n B : Nat) (s : ByteArray) (hs : s.size ≤ 1000000) (w0 w : World) (hE : Env G w0) (hw : Below w0.heap.size w0 w) (hn0 : w0.heap.size ≤ B) (hB : w.cell? ⟨B, 0, none⟩ = some (.string s)) (hBf : w.frozen? ⟨B, 0, none⟩ = false) :
    SeqX Fence.wide n Tryz.prog 59 #[.pointer (some ⟨B, 0, none⟩)] (rowV s.data.toList) (KpR w0.heap.size B) [B]
      (fun xs => xs = List.range (rowsL s.data.toList).length) (fun pre => pre <+: List.range (rowsL s.data.toList).length) (rowsL s.data.toList).length w := fun l J Jx W hW hJ hJx hY h0 => by
  have hB1 : W.cell? ⟨B, 0, none⟩ = some (.string s) := (hW.cell (p := ⟨B, 0, none⟩) (cell_lt hB)).trans hB
  have hB1f : W.frozen? ⟨B, 0, none⟩ = false := (hW.frozen (p := ⟨B, 0, none⟩) (cell_lt hB)).trans hBf
  have hW0 : Below w0.heap.size w0 W := hw.trans (hW.mono hw.size)
  clear hB hW hBf hw
  refine callsIn_of_wp Tryz.func59 rfl trivial ?_ rfl
  simp only [Tryz.ntmps59, List.size_toArray, List.length_cons, List.length_nil, Nat.reduceAdd, Nat.reduceSub, Array.replicate_succ, Array.replicate_zero, List.push_toArray, List.append_toArray, List.nil_append, List.cons_append]
  refine wpIn_scope (wpIn_seq (wpIn_label ?_))
  gi_wp2
  gi_loopw [3] (fun p wr => ∃ (i : Nat) (r : ByteArray), Hid ((rowsL s.data.toList).drop i = rowsL r.data.toList) ∧ i ≤ (rowsL s.data.toList).length ∧ i + r.size ≤ s.size ∧ p = .int .i64 i ∧ J (List.range i) wr ∧ wr.cell? ⟨B, 0, none⟩ = some (.string r) ∧ wr.frozen? ⟨B, 0, none⟩ = false ∧ Below w0.heap.size w0 wr)
    (fun _ wr => match wr.cell? ⟨B, 0, none⟩ with | some (.string r) => r.size | _ => 0)
  case atStart => exact ⟨0, s, Lib.hid rfl, Nat.zero_le _, by omega, rfl, h0, hB1, hB1f, hW0⟩
  case round =>
    obtain ⟨i, r, hr, hi, hrs, rfl, hJr, hc, hcf, hBw⟩ := hrel
    clear hB1 h0 hW0 hB1f
    have hE1 := hE.below hBw
    by_cases hre : r.data.toList = []
    · have ht : r.toList = [] := by rw [ByteArray.toList_eq, hre]
      have hro := hr.out
      rw [hre, rowsL_nil] at hro
      have Hr := Lib.hid hro
      clear hr hro hre
      gi_wp2
      rw [Exit.noGoto_normal]
      go_end0
      refine ⟨⟨_, rfl⟩, .inl ⟨List.range i, ?_, hJr⟩⟩
      have h1 := List.drop_eq_nil_iff.1 Hr.out
      obtain rfl : i = (rowsL s.data.toList).length := by omega
      rfl
    · have hne : (r.toList == []) = false := by rw [beq_eq_false_iff_ne, ByteArray.toList_eq]; exact hre
      have hne2 : r.toList.isEmpty = false := by
        rw [ByteArray.toList_eq]
        cases h : r.data.toList with
        | nil => exact absurd h hre
        | cons a t => rfl
      have hro := hr.out
      rw [rowsL_cons hre] at hro
      have hilt : i < (rowsL s.data.toList).length := by
        rcases Nat.lt_or_ge i (rowsL s.data.toList).length with h | h
        · exact h
        · rw [List.drop_of_length_le h] at hro; cases hro
      have hd := List.drop_eq_getElem_cons hilt
      rw [hro] at hd
      have HD := Lib.hid (show (rowsL s.data.toList).getD i [] = rowOf r.data.toList from by
        rw [List.getD_eq_getElem?_getD, List.getElem?_eq_getElem hilt]
        exact (List.cons.inj hd).1.symm)
      have HR := Lib.hid (show (rowsL s.data.toList).drop (i + 1) = rowsL (⟨(restOf r.data.toList).toArray⟩ : ByteArray).data.toList from (List.cons.inj hd).2.symm)
      have Hsz := Lib.hid (show (restOf r.data.toList).length < r.size from by
        have := restOf_lt hre
        have h8 : r.data.toList.length = r.size := by simp
        omega)
      have hcut := cut_any G r ⟨#[10]⟩ (by omega) wr hE1
      simp only at hcut
      have hJx' := hJ
      have hrow : rowOf r.data.toList = if (Lib.cut r.data.toList [10]).2.2 then Lib.trimSuffix (Lib.cut r.data.toList [10]).1 [13] else (Lib.cut r.data.toList [10]).1 := rfl
      have hrest : restOf r.data.toList = (Lib.cut r.data.toList [10]).2.1 := rfl
      have hcl : (Lib.cut r.data.toList [10]).1.length ≤ 1000000 := by
        have h8 : r.data.toList.length = r.size := by simp
        unfold Lib.cut
        split
        · simp; omega
        · simp; omega
      rw [← hrest] at hcut
      cases hend : (Lib.cut r.data.toList [10]).2.2 with
      | true =>
        rw [hend] at hcut hrow
        have hts := fun W => Tryz.strings_TrimSuffix ⟨(Lib.cut r.data.toList [10]).1.toArray⟩ ⟨#[13]⟩ W (by simp [ByteArray.size]; omega)
        simp only at hts
        rw [if_pos rfl] at hrow
        rw [← hrow] at hts
        have Hts := Lib.hid hts
        have Hcut := Lib.hid hcut
        clear hts hcut hrow hrest hend hd hro hr hcl hre hE1
        gi_wp2_with fail
        refine ⟨trivial, fun h => (by cases h), ?_⟩
        refine (callsIn_wide.2 Hcut.out).mono ?_
        rintro e w1 ⟨rfl, hbw⟩
        gi_wp2_with fail
        refine ⟨trivial, fun h => (by cases h), ?_⟩
        refine (callsIn_wide.2 (Hts.out _)).mono ?_
        rintro e w2 ⟨rfl, h2⟩
        obtain rfl := h2.symm
        obtain ⟨fn, tmps, assign, body, hy, hR⟩ := hY (List.range i) i _ (hJ _ _ _ hJr (Exc.of_below hbw (Nat.le_refl _))) (by simp; exact hilt)
        dsimp only [rowV] at hy
        rw [HD.out] at hy
        have hc1 := (hbw.cell (p := ⟨B, 0, none⟩) (cell_lt hc)).trans hc
        have hf1 := (hbw.frozen (p := ⟨B, 0, none⟩) (cell_lt hc)).trans hcf
        have hBlt := cell_lt hc1
        gi_wp2
        refine ⟨fun h => (by cases h), hR.mono ?_⟩
        rintro e W3 (⟨rfl, hJ1, hK⟩ | ⟨rfl, hx⟩)
        · have hc3 := (hK.1.cell (b := B) (o := 0) (by simp)).trans hc1
          have hf3 := (hK.1.frozen (b := B) (o := 0) (by simp)).trans hf1
          have hbW3 := (hBw.trans (hbw.mono hBw.size)).trans hK.2
          clear hy hc1 hf1 hJ
          gi_wp2
          go_roundw
          case rel =>
            refine ⟨i + 1, ⟨(restOf r.data.toList).toArray⟩, Lib.hid HR.out, hilt, by have := Hsz.out; rw [size_mk]; omega, by go_num, ?_, ?_, ?_, ?_⟩
            · rw [List.range_succ]; exact hJx' _ _ _ hJ1 (Exc.setCell _ _ (by simp) _)
            · exact World.cell?_setCell_same _ _ _ hc3
            · rw [World.frozen?_setCell]; exact hf3
            · exact hbW3.setCell (p := ⟨B, 0, none⟩) hn0 _
          case measure =>
            have := Hsz.out
            rw [World.cell?_setCell_same _ _ _ hc3, hc]
            dsimp only
            rw [size_mk]; omega
        · gi_wp2
          rw [Exit.noGoto_normal]
          go_end0
          refine ⟨⟨_, rfl⟩, .inr ⟨List.range (i + 1), ?_, by rw [List.range_succ]; exact hx⟩⟩
          exact List.range_prefix_range (by omega)
      | false =>
        rw [hend] at hcut hrow
        rw [if_neg (by decide)] at hrow
        rw [← hrow] at hcut
        have Hcut := Lib.hid hcut
        clear hcut hrow hrest hend hd hro hr hcl hre hE1
        gi_wp2_with fail
        refine ⟨trivial, fun h => (by cases h), ?_⟩
        refine (callsIn_wide.2 Hcut.out).mono ?_
        rintro e w1 ⟨rfl, hbw⟩
        obtain ⟨fn, tmps, assign, body, hy, hR⟩ := hY (List.range i) i _ (hJ _ _ _ hJr (Exc.of_below hbw (Nat.le_refl _))) (by simp; exact hilt)
        dsimp only [rowV] at hy
        rw [HD.out] at hy
        have hc1 := (hbw.cell (p := ⟨B, 0, none⟩) (cell_lt hc)).trans hc
        have hf1 := (hbw.frozen (p := ⟨B, 0, none⟩) (cell_lt hc)).trans hcf
        have hBlt := cell_lt hc1
        gi_wp2
        refine ⟨fun h => (by cases h), hR.mono ?_⟩
        rintro e W3 (⟨rfl, hJ1, hK⟩ | ⟨rfl, hx⟩)
        · have hc3 := (hK.1.cell (b := B) (o := 0) (by simp)).trans hc1
          have hf3 := (hK.1.frozen (b := B) (o := 0) (by simp)).trans hf1
          have hbW3 := (hBw.trans (hbw.mono hBw.size)).trans hK.2
          clear hy hc1 hf1 hJ
          gi_wp2
          go_roundw
          case rel =>
            refine ⟨i + 1, ⟨(restOf r.data.toList).toArray⟩, Lib.hid HR.out, hilt, by have := Hsz.out; rw [size_mk]; omega, by go_num, ?_, ?_, ?_, ?_⟩
            · rw [List.range_succ]; exact hJx' _ _ _ hJ1 (Exc.setCell _ _ (by simp) _)
            · exact World.cell?_setCell_same _ _ _ hc3
            · rw [World.frozen?_setCell]; exact hf3
            · exact hbW3.setCell (p := ⟨B, 0, none⟩) hn0 _
          case measure =>
            have := Hsz.out
            rw [World.cell?_setCell_same _ _ _ hc3, hc]
            dsimp only
            rw [size_mk]; omega
        · gi_wp2
          rw [Exit.noGoto_normal]
          go_end0
          refine ⟨⟨_, rfl⟩, .inr ⟨List.range (i + 1), ?_, by rw [List.range_succ]; exact hx⟩⟩
          exact List.range_prefix_range (by omega)
/-- fold.rows itself. -/
theorem rows_any (s : ByteArray) (w : World) :
    Calls Tryz.prog 34 #[.string s] w fun e w' => e = .returned (.func (.func 59) #[] #[.pointer (some ⟨w.heap.size, 0, none⟩)]) ∧ w' = w.alloc (.cells #[.string s] 9) := by
  go_enter Tryz.func34, Tryz.ntmps34
  go_wp2
  go_ret
  exact ⟨rfl, rfl⟩
end Go.Proofs.YtbocflglknkiaaaGreatDoor
