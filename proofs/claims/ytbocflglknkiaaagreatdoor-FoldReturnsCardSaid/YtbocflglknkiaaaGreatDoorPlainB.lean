/- Plain laws: lines, folded and unfolded. -/
import Derived.Test.YtbocflglknkiaaaGreatDoorPlainA
namespace Go.Proofs.YtbocflglknkiaaaGreatDoor
open Go.RowKit Go.Shelf
/-! ### rows put to lines -/
theorem addRow_under (la lb : List ByteArray) (s : ByteArray) (h : isMoreL s = true → lb ≠ []) : addRow (la ++ lb) s = la ++ addRow lb s := by
  unfold addRow
  split
  · rename_i hm
    have hne := h hm
    obtain ⟨x, y, rfl⟩ : ∃ x y, lb = x ++ [y] := ⟨_, _, (List.dropLast_concat_getLast hne).symm⟩
    rw [← List.append_assoc]
    simp
  · rw [List.append_assoc]
theorem foldl_none (rows : List (List UInt8)) : rows.foldl stepU none = none := by
  induction rows with
  | nil => rfl
  | cons r rs ih => simpa [stepU] using ih
theorem foldl_under : ∀ (rows : List (List UInt8)) (la lb : List ByteArray) (op : Bool), (op = true → lb ≠ []) →
    rows.foldl stepU (some (la ++ lb, op)) = (rows.foldl stepU (some (lb, op))).map fun q => (la ++ q.1, q.2)
  | [], _, _, _, _ => rfl
  | r :: rs, la, lb, op, h => by
    rw [List.foldl_cons, List.foldl_cons]
    by_cases hb : badRow op (asB r) = true
    · have e : ∀ l, stepU (some (l, op)) r = none := fun l => by simp [stepU, hb]
      rw [e, e, foldl_none]; rfl
    · have e : ∀ l, stepU (some (l, op)) r = some (addRow l (asB r), !(asB r).toList.isEmpty) := fun l => by simp only [stepU, Option.bind_some, if_neg hb]
      have hm : isMoreL (asB r) = true → lb ≠ [] := fun hm => h (by
        cases op with
        | true => rfl
        | false => exact absurd (by simp [badRow, hm]) hb)
      rw [e, e, addRow_under _ _ _ hm]
      exact foldl_under rs la _ _ (fun _ => addRow_ne _ _)
/-- Rows of which the first one does not go on with a line ahead of it. -/
theorem foldl_first (rows : List (List UInt8)) (h : ∀ r rs, rows = r :: rs → isMoreL (asB r) = false) (la : List ByteArray) (op : Bool) :
    (rows.foldl stepU (some (la, op))).map (·.1) = ((rows.foldl stepU (some ([], false))).map (·.1)).map (la ++ ·) := by
  match rows with
  | [] => simp
  | r :: rs =>
    have hm := h r rs rfl
    rw [List.foldl_cons, List.foldl_cons]
    by_cases hb : hasOtherR (asB r).data.toList = true
    · have e : ∀ l op, stepU (some (l, op)) r = none := fun l op => by simp [stepU, badRow, hb]
      rw [e, e, foldl_none]; rfl
    · rw [Bool.not_eq_true] at hb
      have e : ∀ l op, stepU (some (l, op)) r = some (l ++ [asB r], !(asB r).toList.isEmpty) := fun l op => by simp [stepU, badRow, hb, hm, addRow]
      rw [e, e, List.nil_append, foldl_under rs la [asB r] _ (fun _ => by simp)]
      simp [Option.map_map, Function.comp_def]
theorem rows_first {s : List UInt8} (h : Lib.hasPrefix s [32] = false) : ∀ r rs, rowsL s = r :: rs → isMoreL (asB r) = false := by
  intro r rs hr
  by_cases hs : s = []
  · subst hs; rw [rowsL_nil] at hr; cases hr
  · obtain ⟨r', rs', h1, h2⟩ := row_starts hs
    rw [hr] at h1
    obtain ⟨rfl, rfl⟩ := List.cons.inj h1
    simp [isMoreL, asB, h2, h]
/-- The lines of a text's rows. -/
def linesL (s : List UInt8) : Option (List ByteArray) := (((rowsL s).foldl stepU (some ([], false))).map (·.1))
theorem unfoldL_eq (s : ByteArray) : unfoldL s = if 8000 < s.size then .bad 0 else match linesL s.data.toList with
    | none => .bad 1
    | some l => .ok (l.filter fun x => !isNote x) := by
  unfold unfoldL linesL
  split
  · rfl
  · cases (rowsL s.data.toList).foldl stepU (some ([], false)) <;> rfl
theorem lines_joined (s t : List UInt8) (h : Lib.hasPrefix t [32] = false) : linesL (s ++ [10] ++ t) = (linesL (s ++ [10])).bind fun a => (linesL t).map (a ++ ·) := by
  unfold linesL
  rw [rowsL_append', List.foldl_append]
  cases hs : (rowsL (s ++ [10])).foldl stepU (some ([], false)) with
  | none => rw [foldl_none]; rfl
  | some q =>
    obtain ⟨la, op⟩ := q
    rw [foldl_first _ (rows_first h)]
    rfl
/-- What is wrong in a text stays so behind it. -/
theorem lines_bad (s t : List UInt8) (h : linesL (s ++ [10]) = none) : linesL (s ++ [10] ++ t) = none := by
  unfold linesL at h ⊢
  rw [rowsL_append', List.foldl_append]
  rw [Option.map_eq_none_iff] at h ⊢
  rw [h, foldl_none]
theorem lines_blank {s : List UInt8} (h : Lib.hasPrefix s [32] = true) : linesL s = none := by
  have hs : s ≠ [] := by rintro rfl; simp [Lib.hasPrefix] at h
  obtain ⟨r, rs, h1, h2⟩ := row_starts hs
  unfold linesL
  rw [h1, List.foldl_cons]
  have : stepU (some ([], false)) r = none := by
    have hm : isMoreL (asB r) = true := by simp [isMoreL, asB, h2, h]
    simp [stepU, badRow, hm]
  rw [this, foldl_none]; rfl
theorem lines_one {r : List UInt8} (h : hasOtherR r = false) (hm : Lib.hasPrefix r [32] = false) (h10 : (10 : UInt8) ∉ r) : linesL (r ++ [10]) = some [asB r] := by
  have h13 : Lib.trimSuffix r [13] = r := by
    unfold Lib.trimSuffix
    rw [if_neg]
    intro hs
    rw [Lib.hasSuffix, List.isSuffixOf_iff_suffix] at hs
    have : (13 : UInt8) ∈ r := hs.subset (by simp)
    have h13 : hasOtherR r = true := by
      unfold hasOtherR
      rw [List.any_eq_true]
      exact ⟨13, this, by decide⟩
    rw [h] at h13; cases h13
  unfold linesL
  rw [rowsL_ended h10, rowsL_nil, h13]
  simp [stepU, badRow, asB, isMoreL, h, hm, addRow]
/-- FoldReturns. -/
theorem lines_returns (s : List UInt8) : linesL (addR false s) = linesL s := by
  unfold linesL
  rw [rowsL_addR _ s (Nat.le_refl _)]

/-! ### folding -/
def foldF : Nat → Nat → List UInt8 → List UInt8
  | 0, _, s => s ++ [10]
  | n + 1, k, s => s.take k ++ 10 :: (if s.drop k = [] then [] else 32 :: foldF n 75 (s.drop k))
theorem foldF_succ (n k : Nat) (s : List UInt8) : foldF (n + 1) k s = s.take k ++ 10 :: (if s.drop k = [] then [] else 32 :: foldF n 75 (s.drop k)) := rfl
theorem foldF_fuel : ∀ (n m k : Nat) (s : List UInt8), 1 ≤ k → s.length ≤ n → s.length ≤ m → foldF (n + 1) k s = foldF (m + 1) k s := by
  intro n
  induction n with
  | zero =>
    intro m k s hk h1 h2
    obtain rfl := List.length_eq_zero_iff.1 (Nat.le_zero.1 h1)
    simp [foldF]
  | succ n ih =>
    intro m k s hk h1 h2
    by_cases hd : s.drop k = []
    · simp only [foldF]; rw [if_pos hd, if_pos hd]
    · have hl : k < s.length := by
        rcases Nat.lt_or_ge k s.length with h | h
        · exact h
        · exact absurd (List.drop_of_length_le h) hd
      obtain ⟨m, rfl⟩ : ∃ q, m = q + 1 := ⟨m - 1, by omega⟩
      rw [foldF_succ (n + 1), foldF_succ (m + 1), if_neg hd, if_neg hd, ih m 75 _ (by omega) (by simp; omega) (by simp; omega)]
/-- A line, folded. -/
def foldT (s : List UInt8) : List UInt8 := foldF (s.length + 1) 76 s
theorem mem_take_not {c : UInt8} {s : List UInt8} (h : c ∉ s) (k : Nat) : c ∉ s.take k := fun hm => h (List.mem_of_mem_take hm)
theorem mem_drop_not {c : UInt8} {s : List UInt8} (h : c ∉ s) (k : Nat) : c ∉ s.drop k := fun hm => h (List.mem_of_mem_drop hm)
theorem trimSuffix_no {a : List UInt8} (h : (13 : UInt8) ∉ a) : Lib.trimSuffix a [13] = a := by
  unfold Lib.trimSuffix
  rw [if_neg]
  intro hs
  rw [Lib.hasSuffix, List.isSuffixOf_iff_suffix] at hs
  exact h (hs.subset (by simp))
theorem other_append (a b : List UInt8) : hasOtherR (a ++ b) = (hasOtherR a || hasOtherR b) := by simp [hasOtherR]
theorem other_sub {a b : List UInt8} (h : ∀ x, x ∈ a → x ∈ b) (hb : hasOtherR b = false) : hasOtherR a = false := by
  unfold hasOtherR at hb ⊢
  rw [List.any_eq_false] at hb ⊢
  exact fun x hx => hb x (h x hx)
theorem asB_append (a b : List UInt8) : asB a ++ asB b = asB (a ++ b) := bytes_ext (by simp [asB])
/-- What stands behind the first row goes on with the line under way. -/
theorem more_rows : ∀ (n : Nat) (s x : List UInt8) (l : List ByteArray), s.length ≤ n → s ≠ [] → (10 : UInt8) ∉ s → hasOtherR s = false →
    ((rowsL (32 :: foldF (n + 1) 75 s)).foldl stepU (some (l ++ [asB x], true))).map (·.1) = some (l ++ [asB (x ++ s)]) := by
  intro n
  induction n with
  | zero => intro s x l h1 h2; exact absurd (List.length_eq_zero_iff.1 (Nat.le_zero.1 h1)) h2
  | succ n ih =>
    intro s x l h1 h2 h10 ho
    have h13 : (13 : UInt8) ∉ s := fun hm => by
      have : hasOtherR s = true := by unfold hasOtherR; rw [List.any_eq_true]; exact ⟨13, hm, by decide⟩
      rw [ho] at this; cases this
    have hot : hasOtherR (s.take 75) = false := other_sub (fun x hx => List.mem_of_mem_take hx) ho
    have hod : hasOtherR (s.drop 75) = false := other_sub (fun x hx => List.mem_of_mem_drop hx) ho
    rw [foldF, ← List.cons_append, rowsL_ended (by simp [mem_take_not h10]), trimSuffix_no (by simp [mem_take_not h13]), List.foldl_cons]
    have e : stepU (some (l ++ [asB x], true)) (32 :: s.take 75) = some (l ++ [asB (x ++ s.take 75)], true) := by
      have hm : isMoreL (asB (32 :: s.take 75)) = true := by simp [isMoreL, asB, Lib.hasPrefix]
      have hb : hasOtherR (asB (32 :: s.take 75)).data.toList = false := by
        show hasOtherR (32 :: s.take 75) = false
        rw [show (32 :: s.take 75) = [32] ++ s.take 75 from rfl, other_append, hot]; decide
      have hx : (asB (32 :: s.take 75)).extract 1 (asB (32 :: s.take 75)).size = asB (s.take 75) := by
        apply bytes_ext
        simp only [asB, ByteArray.size, ByteArray.data_extract, List.extract_toArray, List.size_toArray, List.length_cons, List.extract_eq_take_drop, Nat.add_sub_cancel]
        exact List.take_of_length_le (Nat.le_refl _)
      have hne : (asB (32 :: s.take 75)).toList.isEmpty = false := by rw [ByteArray.toList_eq]; rfl
      simp only [stepU, Option.bind_some, badRow, hb, hm, hne, addRow, hx]
      simp [asB_append]
    rw [e]
    by_cases hd : s.drop 75 = []
    · rw [if_pos hd, rowsL_nil]
      have : s.take 75 = s := by
        have := List.take_append_drop 75 s
        rw [hd, List.append_nil] at this; exact this
      simp [this]
    · rw [if_neg hd, ih (s.drop 75) (x ++ s.take 75) l (by simp; omega) hd (mem_drop_not h10 _) hod, List.append_assoc, List.take_append_drop]
/-- FoldBack, of the lines. -/
theorem lines_fold (s : List UInt8) (h10 : (10 : UInt8) ∉ s) (ho : hasOtherR s = false) (hb : Lib.hasPrefix s [32] = false) : linesL (foldT s) = some [asB s] := by
  have h13 : (13 : UInt8) ∉ s := fun hm => by
    have : hasOtherR s = true := by unfold hasOtherR; rw [List.any_eq_true]; exact ⟨13, hm, by decide⟩
    rw [ho] at this; cases this
  have hot : hasOtherR (s.take 76) = false := other_sub (fun x hx => List.mem_of_mem_take hx) ho
  have hod : hasOtherR (s.drop 76) = false := other_sub (fun x hx => List.mem_of_mem_drop hx) ho
  unfold linesL foldT
  rw [foldF, rowsL_ended (mem_take_not h10 _), trimSuffix_no (mem_take_not h13 _), List.foldl_cons]
  have hm : isMoreL (asB (s.take 76)) = false := by
    cases s with
    | nil => rfl
    | cons c r =>
      rw [pre_cons] at hb
      show Lib.hasPrefix (c :: r.take 75) [32] = false
      rw [pre_cons]; exact hb
  by_cases hs : s = []
  · subst hs; rfl
  have e : stepU (some ([], false)) (s.take 76) = some ([asB (s.take 76)], true) := by
    have hne : (asB (s.take 76)).toList.isEmpty = false := by
      rw [ByteArray.toList_eq]
      cases s with
      | nil => exact absurd rfl hs
      | cons c r => rfl
    have hb2 : hasOtherR (asB (s.take 76)).data.toList = false := hot
    simp only [stepU, Option.bind_some, badRow, hb2, hm, hne, addRow]
    simp
  rw [e]
  by_cases hd : s.drop 76 = []
  · rw [if_pos hd, rowsL_nil]
    have : s.take 76 = s := by
      have := List.take_append_drop 76 s
      rw [hd, List.append_nil] at this; exact this
    simp [this]
  · rw [if_neg hd]
    have hl : 76 < s.length := by
      rcases Nat.lt_or_ge 76 s.length with h | h
      · exact h
      · exact absurd (List.drop_of_length_le h) hd
    have := more_rows (s.length - 1) (s.drop 76) (s.take 76) [] (by simp; omega) hd (mem_drop_not h10 _) hod
    rw [show s.length - 1 + 1 = s.length by omega] at this
    rw [List.nil_append] at this
    rw [this, List.take_append_drop]; rfl
theorem foldF_length : ∀ (n k : Nat) (s : List UInt8), s.length ≤ n → 75 ≤ k → 75 * (foldF (n + 1) k s).length ≤ 77 * s.length + 75
  | 0, k, s, h, _ => by
    obtain rfl := List.length_eq_zero_iff.1 (Nat.le_zero.1 h)
    simp [foldF]
  | n + 1, k, s, h, hk => by
    rw [foldF_succ, List.length_append, List.length_cons]
    by_cases hd : s.drop k = []
    · rw [if_pos hd]
      simp; omega
    · rw [if_neg hd, List.length_cons]
      have hl : k < s.length := by
        rcases Nat.lt_or_ge k s.length with h | h
        · exact h
        · exact absurd (List.drop_of_length_le h) hd
      have := foldF_length n 75 (s.drop k) (by simp; omega) (Nat.le_refl _)
      rw [List.length_drop] at this
      rw [List.length_take]
      omega
theorem foldT_length (s : List UInt8) : 75 * (foldT s).length ≤ 77 * s.length + 75 := foldF_length _ 76 s (Nat.le_refl _) (by omega)
/-- Do a text's rows have at most seventy-six bytes? n: so many have gone by in the first one. -/
def narrow : Nat → List UInt8 → Bool
  | _, [] => true
  | n, c :: r => if c = 10 then narrow 0 r else if n + 1 ≤ 76 then narrow (n + 1) r else false
theorem narrow_row : ∀ (a : List UInt8) (n : Nat) (b : List UInt8), n + a.length ≤ 76 → narrow 0 b = true → narrow n (a ++ 10 :: b) = true
  | [], n, b, _, hb => by simp [narrow, hb]
  | c :: a, n, b, h, hb => by
    rw [List.cons_append, narrow]
    simp only [List.length_cons] at h
    by_cases hc : c = 10
    · rw [if_pos hc]; exact narrow_row a 0 b (by omega) hb
    · rw [if_neg hc, if_pos (by omega)]; exact narrow_row a (n + 1) b (by omega) hb
theorem narrow_fold : ∀ (n k : Nat) (s p : List UInt8), s.length ≤ n → k + p.length ≤ 76 → 1 ≤ k → narrow 0 (p ++ foldF (n + 1) k s) = true
  | 0, k, s, p, h, hk, _ => by
    obtain rfl := List.length_eq_zero_iff.1 (Nat.le_zero.1 h)
    simp only [foldF, List.take_nil, List.drop_nil, if_true, List.nil_append]
    exact narrow_row p 0 [] (by omega) rfl
  | n + 1, k, s, p, h, hk, h1 => by
    rw [foldF, ← List.append_assoc]
    refine narrow_row _ 0 _ (by simp; omega) ?_
    split
    · rfl
    · exact narrow_fold n 75 (s.drop k) [32] (by simp; omega) (by simp) (by omega)
theorem narrow_foldT (s : List UInt8) : narrow 0 (foldT s) = true := narrow_fold s.length 76 s [] (Nat.le_refl _) (by simp) (by omega)
theorem foldF_end : ∀ (n k : Nat) (s : List UInt8), ∃ r, foldF n k s = r ++ [10]
  | 0, k, s => ⟨s, rfl⟩
  | n + 1, k, s => by
    rw [foldF]
    split
    · exact ⟨_, rfl⟩
    · obtain ⟨r, hr⟩ := foldF_end n 75 (s.drop k)
      exact ⟨s.take k ++ 10 :: 32 :: r, by rw [hr]; simp⟩
end Go.Proofs.YtbocflglknkiaaaGreatDoor
