/- Plain laws on rows and lines. -/
import Derived.Test.YtbocflglknkiaaaGreatDoorAnyB
namespace Go.Proofs.YtbocflglknkiaaaGreatDoor
open Go.RowKit Go.Shelf
theorem pre_nil (d : UInt8) : Lib.hasPrefix [] [d] = false := rfl
theorem pre_cons (d c : UInt8) (r : List UInt8) : Lib.hasPrefix (c :: r) [d] = (d == c) := by
  show (d == c && ([] : List UInt8).isPrefixOf r) = _
  cases r <;> simp [List.isPrefixOf]
/-! ### cutting at a byte -/
theorem cut_nil (c : UInt8) : Lib.cut [] [c] = ([], [], false) := by simp [Lib.cut, Lib.index]
theorem cut_cons (b : UInt8) (l : List UInt8) (c : UInt8) : Lib.cut (b :: l) [c] = if b = c then ([], l, true) else (b :: (Lib.cut l [c]).1, (Lib.cut l [c]).2.1, (Lib.cut l [c]).2.2) := by
  have hge := Lib.index_ge l [c]
  by_cases h : b = c
  · subst h
    simp [Lib.cut, Lib.index]
  · have h' : ([c] : List UInt8).isPrefixOf (b :: l) = false := (pre_cons c b l).trans (by rw [beq_eq_false_iff_ne]; exact fun e => h e.symm)
    rw [if_neg h]
    unfold Lib.cut
    rw [Lib.index, h']
    by_cases hi : Lib.index l [c] = -1
    · simp [hi]
    · have h0 : 0 ≤ Lib.index l [c] := by omega
      obtain ⟨k, hk⟩ := Int.eq_ofNat_of_zero_le h0
      rw [hk]
      have e1 : ((k : Int) == -1) = false := by rw [beq_eq_false_iff_ne]; omega
      have e2 : (0 : Int) ≤ (k : Int) + 1 := by omega
      have e3 : ((k : Int) + 1).toNat = k + 1 := by omega
      simp [e1, e2, e3]
theorem cut_hit {c : UInt8} {a : List UInt8} (h : c ∉ a) (b : List UInt8) : Lib.cut (a ++ c :: b) [c] = (a, b, true) := by
  induction a with
  | nil => rw [List.nil_append, cut_cons, if_pos rfl]
  | cons x a ih =>
    simp only [List.mem_cons, not_or] at h
    rw [List.cons_append, cut_cons, if_neg (fun e => h.1 e.symm), ih h.2]
theorem cut_miss {c : UInt8} {a : List UInt8} (h : c ∉ a) : Lib.cut a [c] = (a, [], false) := by
  induction a with
  | nil => exact cut_nil c
  | cons x a ih =>
    simp only [List.mem_cons, not_or] at h
    rw [cut_cons, if_neg (fun e => h.1 e.symm), ih h.2]
theorem parted {c : UInt8} {s : List UInt8} (h : c ∈ s) : ∃ a b, s = a ++ c :: b ∧ c ∉ a := by
  obtain ⟨a, b, h1, h2⟩ := List.eq_append_cons_of_mem h
  exact ⟨a, b, h1, h2⟩

/-! ### rows -/
theorem rowsL_ended {a : List UInt8} (h : (10 : UInt8) ∉ a) (b : List UInt8) : rowsL (a ++ 10 :: b) = Lib.trimSuffix a [13] :: rowsL b := by
  rw [rowsL_cons (by simp)]
  simp [rowOf, restOf, cut_hit h]
theorem rowsL_last {a : List UInt8} (h : (10 : UInt8) ∉ a) (hne : a ≠ []) : rowsL a = [a] := by
  rw [rowsL_cons hne]
  simp [rowOf, restOf, cut_miss h, rowsL_nil]
theorem rowsL_append : ∀ (n : Nat) (s t : List UInt8), s.length ≤ n → rowsL (s ++ 10 :: t) = rowsL (s ++ [10]) ++ rowsL t := by
  intro n
  induction n with
  | zero =>
    intro s t h
    obtain rfl := List.length_eq_zero_iff.1 (Nat.le_zero.1 h)
    rw [rowsL_ended (by simp), rowsL_ended (by simp)]; simp [rowsL_nil]
  | succ n ih =>
    intro s t h
    by_cases h10 : (10 : UInt8) ∈ s
    · obtain ⟨a, b, rfl, ha⟩ := parted h10
      rw [List.append_assoc, List.cons_append, rowsL_ended ha, List.append_assoc, List.cons_append, rowsL_ended ha, ih b t (by simp at h; omega)]
      rfl
    · rw [rowsL_ended h10, rowsL_ended h10]; simp [rowsL_nil]
theorem rowsL_append' (s t : List UInt8) : rowsL (s ++ [10] ++ t) = rowsL (s ++ [10]) ++ rowsL t := by
  rw [List.append_assoc]; exact rowsL_append s.length s t (Nat.le_refl _)

/-! ### 0d put ahead of each 0a -/
def addR : Bool → List UInt8 → List UInt8
  | _, [] => []
  | p, c :: r => (if c = 10 ∧ p = false then [13, c] else [c]) ++ addR (c == 13) r
def endsR : Bool → List UInt8 → Bool
  | p, [] => p
  | _, c :: r => endsR (c == 13) r
theorem addR_append : ∀ (a : List UInt8) (p : Bool) (b : List UInt8), (10 : UInt8) ∉ a → addR p (a ++ b) = a ++ addR (endsR p a) b
  | [], _, _, _ => rfl
  | c :: a, p, b, h => by
    simp only [List.mem_cons, not_or] at h
    rw [List.cons_append, addR, if_neg (fun e => h.1 e.1.symm), addR_append a _ b h.2]
    rfl
theorem addR_none {a : List UInt8} (h : (10 : UInt8) ∉ a) (p : Bool) : addR p a = a := by
  have := addR_append a p [] h
  simpa [addR] using this
theorem endsR_iff : ∀ (a : List UInt8) (p : Bool), a ≠ [] → endsR p a = Lib.hasSuffix a [13]
  | [c], p, _ => by
    show (c == 13) = Lib.hasPrefix [c] [13]
    rw [pre_cons]; exact Bool.beq_comm
  | c :: d :: r, p, _ => by
    rw [endsR, endsR_iff (d :: r) _ (by simp)]
    simp only [Lib.hasSuffix]
    rw [Bool.eq_iff_iff, List.isSuffixOf_iff_suffix, List.isSuffixOf_iff_suffix]
    constructor
    · intro h; exact h.trans (List.suffix_cons _ _)
    · intro h
      rcases List.suffix_cons_iff.1 h with h | h
      · simp at h
      · exact h
theorem trimSuffix_snoc (a : List UInt8) : Lib.trimSuffix (a ++ [13]) [13] = a := by
  have : Lib.hasSuffix (a ++ [13]) [13] = true := by rw [Lib.hasSuffix, List.isSuffixOf_iff_suffix]; exact List.suffix_append _ _
  simp [Lib.trimSuffix, this]
theorem rowsL_addR : ∀ (n : Nat) (s : List UInt8), s.length ≤ n → rowsL (addR false s) = rowsL s := by
  intro n
  induction n with
  | zero =>
    intro s h
    obtain rfl := List.length_eq_zero_iff.1 (Nat.le_zero.1 h)
    rfl
  | succ n ih =>
    intro s h
    by_cases h10 : (10 : UInt8) ∈ s
    · obtain ⟨a, b, rfl, ha⟩ := parted h10
      have hb := ih b (by simp at h; omega)
      rw [addR_append a _ _ ha, addR]
      by_cases he : endsR false a = true
      · rw [if_neg (by simp [he])]
        simp only [List.singleton_append]
        rw [rowsL_ended ha, rowsL_ended ha]
        exact congrArg _ hb
      · rw [Bool.not_eq_true] at he
        rw [if_pos ⟨rfl, he⟩]
        have e : a ++ ([13, 10] ++ addR ((10 : UInt8) == 13) b) = (a ++ [13]) ++ 10 :: addR false b := by simp
        rw [e, rowsL_ended (by simp [ha]), rowsL_ended ha, trimSuffix_snoc, hb]
        congr 1
        unfold Lib.trimSuffix
        by_cases ha0 : a = []
        · subst ha0; rfl
        · rw [endsR_iff a _ ha0] at he
          rw [if_neg (by simp [he])]
    · rw [addR_none h10]
theorem addR_length : ∀ (s : List UInt8) (p : Bool), (addR p s).length ≤ 2 * s.length
  | [], _ => by simp [addR]
  | c :: r, p => by
    have := addR_length r (c == 13)
    rw [addR, List.length_append, List.length_cons]
    split <;> simp <;> omega

/-! ### the first row -/
theorem row_starts {s : List UInt8} (h : s ≠ []) : ∃ r rs, rowsL s = r :: rs ∧ (Lib.hasPrefix r [32] = Lib.hasPrefix s [32]) := by
  by_cases h10 : (10 : UInt8) ∈ s
  · obtain ⟨a, b, rfl, ha⟩ := parted h10
    refine ⟨_, _, rowsL_ended ha b, ?_⟩
    unfold Lib.trimSuffix
    match a with
    | [] => rfl
    | [c] =>
      by_cases hc : Lib.hasSuffix [c] [13] = true
      · have : c = 13 := by
          rw [Lib.hasSuffix, List.isSuffixOf_iff_suffix] at hc
          have := hc.eq_of_length (by simp)
          simp at this; exact this.symm
        subst this
        rfl
      · rw [if_neg hc, List.cons_append, pre_cons, pre_cons]
    | c :: d :: r =>
      rw [List.cons_append, pre_cons]
      split
      · rw [List.length_cons, List.length_cons, List.length_singleton, Nat.add_sub_cancel, List.take_succ_cons, pre_cons]
      · rw [pre_cons]
  · exact ⟨_, _, rowsL_last h10 h, rfl⟩
end Go.Proofs.YtbocflglknkiaaaGreatDoor
