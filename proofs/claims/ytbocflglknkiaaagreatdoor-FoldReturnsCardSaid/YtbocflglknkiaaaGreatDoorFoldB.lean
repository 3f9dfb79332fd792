/- fold: Item. -/
import Derived.Test.YtbocflglknkiaaaGreatDoorFoldA
namespace Go.Proofs.YtbocflglknkiaaaGreatDoor
open Go.RowKit Go.Shelf

theorem bytes_ext {a b : ByteArray} (h : a.data.toList = b.data.toList) : a = b := by
  cases a; cases b
  simp at h
  rw [h]
theorem baseB_size (s : ByteArray) : (baseB s).size = 4 * nPieces s 3 := by
  have : (baseB s).size = (outL s (List.range (nPieces s 3))).length := by simp [baseB, ByteArray.size]
  rw [this, outL_length, List.length_range]
theorem baseB_le (s : ByteArray) : (baseB s).size ≤ 4 * s.size + 4 := by
  rw [baseB_size]; unfold nPieces; omega
theorem ret_sn {a b : ByteArray} {k : Int} (h : a.data.toList = b.data.toList) : Ending.returned (.tuple #[.string a, .int .i64 k]) = .returned (.tuple #[.string b, .int .i64 k]) := by rw [bytes_ext h]
/-- The line of an item. -/
def itemL (n v : ByteArray) : Option ByteArray :=
  if isNameL n.data.toList then
    some (if v.data.toList = [] then ⟨(n.data.toList ++ [58]).toArray⟩ else if isSafeL v.data.toList then ⟨(n.data.toList ++ [58, 32] ++ v.data.toList).toArray⟩ else ⟨(n.data.toList ++ [58, 58, 32] ++ (baseB v).data.toList).toArray⟩)
  else none
def itemV : Option ByteArray → Value
  | some l => .tuple #[.string l, .int .i64 0]
  | none => .tuple #[.string ⟨#[]⟩, .int .i64 151]

set_option maxHeartbeats 1000000 in
theorem Item_any (G : Nat → Addr) (n v : ByteArray) (hn : n.size ≤ 10000) (hv : v.size ≤ 10000) (w : World) (hE : Env G w) :
    Calls Tryz.prog 14 #[.string n, .string v] w fun e w' => e = .returned (itemV (itemL n v)) ∧ Below w.heap.size w w' := by
  have hr : Calls Tryz.prog 24 #[.string n] w _ := isName_any n w
  by_cases hnm : isNameL n.data.toList = true
  · by_cases hv0 : v.data.toList = []
    · have ht : v.toList = [] := by rw [ByteArray.toList_eq, hv0]
      have Hi := Lib.hid (show itemL n v = some ⟨(n.data.toList ++ [58]).toArray⟩ by simp [itemL, hnm, hv0])
      rw [hnm] at hr
      have Hr := Lib.hid hr
      clear hr hnm hv0
      go_enter Tryz.func14, Tryz.ntmps14
      go_wp2_with fail
      refine Hr.out.mono ?_
      rintro e w1 ⟨rfl, hB1⟩
      go_wp2
      go_ret2
      refine ⟨?_, hB1⟩
      rw [Hi.out]
      exact ret_sn (by simp)
    · have hne : v.toList.isEmpty = false := by
        rw [ByteArray.toList_eq]
        cases h : v.data.toList with
        | nil => exact absurd h hv0
        | cons a r => rfl
      have hne2 : (v.toList == []) = false := by
        rw [beq_eq_false_iff_ne, ByteArray.toList_eq]; exact hv0
      by_cases hsf : isSafeL v.data.toList = true
      · have Hi := Lib.hid (show itemL n v = some ⟨(n.data.toList ++ [58, 32] ++ v.data.toList).toArray⟩ by simp only [itemL, hnm, if_true, if_neg hv0, hsf])
        have hq := isSafe_any v (by omega)
        rw [hsf] at hq
        have Hq := Lib.hid hq
        rw [hnm] at hr
        have Hr := Lib.hid hr
        clear hr hnm hv0 hq hsf
        go_enter Tryz.func14, Tryz.ntmps14
        go_wp2_with fail
        refine Hr.out.mono ?_
        rintro e w1 ⟨rfl, hB1⟩
        go_wp2_with fail
        refine (Hq.out _).mono ?_
        rintro e w2 ⟨rfl, hB2⟩
        go_wp2
        go_ret2
        refine ⟨?_, hB1.trans (hB2.mono hB1.size)⟩
        rw [Hi.out]
        exact ret_sn (by simp)
      · have Hi := Lib.hid (show itemL n v = some ⟨(n.data.toList ++ [58, 58, 32] ++ (baseB v).data.toList).toArray⟩ by simp only [itemL, hnm, if_true, if_neg hv0, if_neg hsf])
        have hq := isSafe_any v (by omega)
        rw [Bool.not_eq_true] at hsf
        rw [hsf] at hq
        have Hq := Lib.hid hq
        rw [hnm] at hr
        have Hr := Lib.hid hr
        clear hr hnm hv0 hq hsf
        go_enter Tryz.func14, Tryz.ntmps14
        go_wp2_with fail
        refine Hr.out.mono ?_
        rintro e w1 ⟨rfl, hB1⟩
        go_wp2_with fail
        refine (Hq.out _).mono ?_
        rintro e w2 ⟨rfl, hB2⟩
        go_wp2_with fail
        refine (base_any v (by omega) _).mono ?_
        rintro e w3 ⟨rfl, hB3⟩
        have hbl := baseB_le v
        have hbl2 : (baseB v).size ≤ 50000 := by omega
        clear hbl
        go_wp2

        go_ret2
        refine ⟨?_, hB1.trans ((hB2.mono hB1.size).trans (hB3.mono (by have := hB1.size; have := hB2.size; omega)))⟩
        rw [Hi.out]
        exact ret_sn (by simp)
  · have Hi := Lib.hid (show itemL n v = none by simp [itemL, hnm])
    rw [Bool.not_eq_true] at hnm
    rw [hnm] at hr
    have Hr := Lib.hid hr
    clear hr hnm
    go_enter Tryz.func14, Tryz.ntmps14
    go_wp2_with fail
    refine Hr.out.mono ?_
    rintro e w1 ⟨rfl, hB1⟩
    have hE1 := hE.below hB1
    have hs := hE1.s_fold_errItem.cell
    go_wp2_with fail
    refine (fold_told_errItem G 0 _ hE1).mono ?_
    rintro e w2 ⟨rfl, hB2⟩
    go_wp2
    go_ret2
    exact ⟨by rw [Hi.out]; rfl, hB1.trans (hB2.mono hB1.size)⟩
end Go.Proofs.YtbocflglknkiaaaGreatDoor
