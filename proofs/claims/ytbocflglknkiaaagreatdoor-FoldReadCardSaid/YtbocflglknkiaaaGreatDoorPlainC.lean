/- Plain laws: base64, items. -/
import Derived.Test.YtbocflglknkiaaaGreatDoorPlainB
namespace Go.Proofs.YtbocflglknkiaaaGreatDoor
open Go.RowKit Go.Shelf
/-! ### base64 -/
theorem sg_range (i : Nat) : 43 ≤ sg i ∧ sg i ≤ 122 := by unfold sg; (repeat' split) <;> omega
theorem sgB_range (i : Nat) : 43 ≤ (sgB i).toNat ∧ (sgB i).toNat ≤ 122 := by rw [sgB_toNat]; exact sg_range i
theorem groupL_range (l : List UInt8) : ∀ c, c ∈ groupL l → 43 ≤ c.toNat ∧ c.toNat ≤ 122 := by
  have h61 : 43 ≤ (61 : UInt8).toNat ∧ (61 : UInt8).toNat ≤ 122 := by decide
  intro c hc
  match l with
  | [] | [_] | [_, _] | [_, _, _] | _ :: _ :: _ :: _ :: _ =>
    simp only [groupL, List.mem_cons, List.not_mem_nil, or_false] at hc
    rcases hc with rfl | rfl | rfl | rfl <;> first | exact h61 | exact sgB_range _
theorem baseB_range (s : ByteArray) : ∀ c, c ∈ (baseB s).data.toList → 43 ≤ c.toNat ∧ c.toNat ≤ 122 := by
  intro c hc
  have : c ∈ outL s (List.range (nPieces s 3)) := by simpa [baseB] using hc
  rw [outL, List.mem_flatMap] at this
  obtain ⟨i, _, h⟩ := this
  exact groupL_range _ c h
theorem worth_sg (i : Nat) (h : i < 64) : worthL (sgB i) = some i := by
  have : ∀ i : Fin 64, worthL (sgB i.val) = some i.val := by decide +kernel
  exact this ⟨i, h⟩
theorem sgB_ne (i : Nat) (h : i < 64) : (sgB i == (61 : UInt8)) = false := by
  have : ∀ i : Fin 64, (sgB i.val == (61 : UInt8)) = false := by decide +kernel
  exact this ⟨i, h⟩
theorem byte_of (n : Nat) (a : UInt8) (h : n % 256 = a.toNat) : n.toUInt8 = a := by
  apply UInt8.toNat_inj.1
  simp [h]
theorem ungroup_group (l : List UInt8) (h1 : 1 ≤ l.length) (h3 : l.length ≤ 3) : ungroupL (groupL l) = some l := by
  match l, h1, h3 with
  | [a], _, _ =>
    have ha := a.toNat_lt
    have i1 : a.toNat / 4 < 64 := by omega
    have i2 : a.toNat % 4 * 16 < 64 := by omega
    have ht : Lib.trimRightB (groupL [a]) 61 = [sgB (a.toNat / 4), sgB (a.toNat % 4 * 16)] := by
      simp [groupL, Lib.trimRightB, List.dropWhile, sgB_ne _ i2]
    rw [ungroupL, ht]
    simp only [valL, worth_sg _ i1, worth_sg _ i2, Option.bind_some, Option.map_some, List.length_cons, List.length_nil]
    simp only [outB, List.range, List.range.loop, List.map_cons, List.map_nil]
    rw [byte_of _ a (by simp; omega)]
  | [a, b], _, _ =>
    have ha := a.toNat_lt
    have hb := b.toNat_lt
    have i1 : a.toNat / 4 < 64 := by omega
    have i2 : a.toNat % 4 * 16 + b.toNat / 16 < 64 := by omega
    have i3 : b.toNat % 16 * 4 < 64 := by omega
    have ht : Lib.trimRightB (groupL [a, b]) 61 = [sgB (a.toNat / 4), sgB (a.toNat % 4 * 16 + b.toNat / 16), sgB (b.toNat % 16 * 4)] := by
      simp [groupL, Lib.trimRightB, List.dropWhile, sgB_ne _ i3]
    rw [ungroupL, ht]
    simp only [valL, worth_sg _ i1, worth_sg _ i2, worth_sg _ i3, Option.bind_some, Option.map_some, List.length_cons, List.length_nil]
    simp only [outB, List.range, List.range.loop, List.map_cons, List.map_nil]
    rw [byte_of _ a (by simp; omega), byte_of _ b (by simp; omega)]
  | [a, b, c], _, _ =>
    have ha := a.toNat_lt
    have hb := b.toNat_lt
    have hc := c.toNat_lt
    have i1 : a.toNat / 4 < 64 := by omega
    have i2 : a.toNat % 4 * 16 + b.toNat / 16 < 64 := by omega
    have i3 : b.toNat % 16 * 4 + c.toNat / 64 < 64 := by omega
    have i4 : c.toNat % 64 < 64 := by omega
    have ht : Lib.trimRightB (groupL [a, b, c]) 61 = [sgB (a.toNat / 4), sgB (a.toNat % 4 * 16 + b.toNat / 16), sgB (b.toNat % 16 * 4 + c.toNat / 64), sgB (c.toNat % 64)] := by
      simp [groupL, Lib.trimRightB, sgB_ne _ i4]
    rw [ungroupL, ht]
    simp only [valL, worth_sg _ i1, worth_sg _ i2, worth_sg _ i3, worth_sg _ i4, Option.bind_some, Option.map_some, List.length_cons, List.length_nil]
    simp only [outB, List.range, List.range.loop, List.map_cons, List.map_nil]
    rw [byte_of _ a (by simp; omega), byte_of _ b (by simp; omega), byte_of _ c (by simp; omega)]
theorem out_piece (s : ByteArray) : ∀ (pre : List Nat) (i : Nat) (h : i < pre.length), ((outL s pre).drop (4 * i)).take 4 = groupL (piece s 3 pre[i]).data.toList
  | a :: r, 0, _ => by
    rw [outL, List.flatMap_cons, Nat.mul_zero, List.drop_zero, List.take_append_of_le_length (by rw [groupL_length]; omega), List.take_of_length_le (by rw [groupL_length]; omega)]
    rfl
  | a :: r, i + 1, h => by
    have e : outL s (a :: r) = groupL (piece s 3 a).data.toList ++ outL s r := by rw [outL, List.flatMap_cons]; rfl
    have := groupL_length (piece s 3 a).data.toList
    rw [e, show 4 * (i + 1) = (groupL (piece s 3 a).data.toList).length + 4 * i by omega, List.drop_append, List.drop_of_length_le (by omega), List.nil_append, Nat.add_sub_cancel_left, out_piece s r i (by simpa using h)]
    rfl
theorem piece_list (s : ByteArray) (k i : Nat) : (piece s k i).data.toList = (s.data.toList.drop (i * k)).take k := by
  simp only [piece, ByteArray.data_extract, Array.toList_extract, List.extract_eq_take_drop]
  have e : s.size = s.data.toList.length := by simp
  rw [e]
  generalize s.data.toList = l
  rcases Nat.lt_or_ge (i * k + k) l.length with h | h
  · rw [Nat.min_eq_left (by omega), Nat.add_sub_cancel_left]
  · rw [Nat.min_eq_right h, ← List.length_drop, List.take_of_length_le (Nat.le_refl _), List.take_of_length_le (by simp; omega)]
theorem base_list (s : ByteArray) : (baseB s).data.toList = outL s (List.range (nPieces s 3)) := by simp [baseB]
theorem piece_base (s : ByteArray) (i : Nat) (h : i < nPieces s 3) : (piece (baseB s) 4 i).data.toList = groupL (piece s 3 i).data.toList := by
  rw [piece_list, base_list, Nat.mul_comm, out_piece s _ i (by simpa using h)]
  simp
theorem dec_base (s : ByteArray) : ∀ k, k ≤ nPieces s 3 → decL (baseB s) (List.range k) = some (s.data.toList.take (3 * k))
  | 0, _ => by simp [decL]
  | k + 1, h => by
    have hk : k * 3 < s.size := by unfold nPieces at h; omega
    have hl : s.data.toList.length = s.size := by simp
    rw [List.range_succ, decL_snoc, dec_base s k (by omega), Option.bind_some, piece_base s k (by omega), ungroup_group _ ?_ ?_, Option.map_some, piece_list]
    · congr 1
      rw [show 3 * (k + 1) = 3 * k + 3 by omega, List.take_add, Nat.mul_comm k 3]
    · rw [piece_list]; simp; omega
    · rw [piece_list]; simp; omega
/-- A text is read from its base64. -/
theorem unbase_base (s : ByteArray) : unbaseL (baseB s) = some s.data.toList := by
  have hn : nPieces (baseB s) 4 = nPieces s 3 := by
    have := baseB_size s
    unfold nPieces at this ⊢
    omega
  have hl : s.data.toList.length = s.size := by simp
  rw [unbaseL, hn, dec_base s _ (Nat.le_refl _), Option.bind_some, List.take_of_length_le (by unfold nPieces; omega)]
  rw [if_pos]
  rfl

/-! ### items -/
theorem name_parts {n : List UInt8} (h : isNameL n = true) : n ≠ [] ∧ (58 : UInt8) ∉ n ∧ (∀ c, c ∈ n → 33 ≤ c.toNat ∧ c.toNat ≤ 126) ∧ Lib.hasPrefix n [35] = false := by
  match n with
  | [] => simp [isNameL] at h
  | c :: r =>
    simp only [isNameL, Bool.and_eq_true, bne_iff_ne, ne_eq, Bool.not_eq_true'] at h
    obtain ⟨h1, h2⟩ := h
    rw [hasBarred, List.any_eq_false] at h2
    have h3 : ∀ x, x ∈ c :: r → ¬ x.toNat < 33 ∧ ¬ 126 < x.toNat ∧ x.toNat ≠ 58 := fun x hx => by
      have := h2 x hx
      simpa [barredP, and_assoc] using this
    refine ⟨by simp, fun hm => (h3 _ hm).2.2 rfl, fun x hx => ⟨by have := (h3 x hx).1; omega, by have := (h3 x hx).2.1; omega⟩, ?_⟩
    rw [pre_cons, beq_eq_false_iff_ne]
    exact fun e => h1 e.symm
theorem trimLeft_ne {c d : UInt8} {r : List UInt8} (h : (c == d) = false) : Lib.trimLeftB (c :: r) d = c :: r := by
  rw [Lib.trimLeftB, List.dropWhile_cons, if_neg (by simp [h])]
theorem trimLeft_eq (c : UInt8) (r : List UInt8) : Lib.trimLeftB (c :: r) c = Lib.trimLeftB r c := by
  rw [Lib.trimLeftB, List.dropWhile_cons, if_pos (by simp)]; rfl
theorem trimLeft_blanks (k : Nat) (r : List UInt8) : Lib.trimLeftB (List.replicate k 32 ++ r) 32 = Lib.trimLeftB r 32 := by
  induction k with
  | zero => rfl
  | succ k ih => rw [List.replicate_succ, List.cons_append, trimLeft_eq, ih]
theorem trimLeft_base (s : ByteArray) : Lib.trimLeftB (baseB s).data.toList 32 = (baseB s).data.toList := by
  have h := baseB_range s
  cases hl : (baseB s).data.toList with
  | nil => rfl
  | cons c r =>
    refine trimLeft_ne ?_
    rw [beq_eq_false_iff_ne]
    rintro rfl
    have := h 32 (by rw [hl]; simp)
    exact absurd this.1 (by decide)
/-- FoldBase. -/
theorem read_base {n : List UInt8} (h : isNameL n = true) (v : ByteArray) (k : Nat) : readL (n ++ [58, 58] ++ (List.replicate k 32 ++ (baseB v).data.toList)) = .ok n v.data.toList := by
  obtain ⟨h1, h2, _, _⟩ := name_parts h
  have hc : Lib.cut (n ++ [58, 58] ++ (List.replicate k 32 ++ (baseB v).data.toList)) [58] = (n, 58 :: (List.replicate k 32 ++ (baseB v).data.toList), true) := by
    rw [show n ++ [58, 58] ++ (List.replicate k 32 ++ (baseB v).data.toList) = n ++ 58 :: (58 :: (List.replicate k 32 ++ (baseB v).data.toList)) by simp]
    exact cut_hit h2 _
  have ht : Lib.trimPrefix (58 :: (List.replicate k 32 ++ (baseB v).data.toList)) [58] = List.replicate k 32 ++ (baseB v).data.toList := by
    rw [Lib.trimPrefix, if_pos (by rw [pre_cons]; rfl)]; rfl
  rw [readL, hc]
  simp only
  rw [if_neg (by simp [h1]), if_neg (by rw [pre_cons]; decide), if_pos (by rw [pre_cons]; rfl), ht, trimLeft_blanks, trimLeft_base]
  have : (⟨(baseB v).data.toList.toArray⟩ : ByteArray) = baseB v := bytes_ext rfl
  rw [this, unbase_base]
theorem safe_nil : isSafeL [] = true := by decide
/-- FoldRead, of the line. -/
theorem read_item {n v s : ByteArray} (h : itemL n v = some s) : readL s.data.toList = .ok n.data.toList v.data.toList := by
  unfold itemL at h
  by_cases hn : isNameL n.data.toList = true
  · rw [if_pos hn] at h
    obtain ⟨h1, h2, _, _⟩ := name_parts hn
    have h' := Option.some.inj h
    clear h
    by_cases hv : v.data.toList = []
    · rw [if_pos hv] at h'
      subst h'
      show readL (n.data.toList ++ [58]) = _
      rw [readL, cut_hit h2, hv]
      simp only
      rw [if_neg (by simp [h1]), if_neg (by rw [pre_nil]; decide), if_neg (by rw [pre_nil]; decide), if_pos (by decide)]
      rfl
    · rw [if_neg hv] at h'
      by_cases hs : isSafeL v.data.toList = true
      · rw [if_pos hs] at h'
        subst h'
        show readL (n.data.toList ++ [58, 32] ++ v.data.toList) = _
        have ht : Lib.trimLeftB (32 :: v.data.toList) 32 = v.data.toList := by
          rw [trimLeft_eq]
          cases hl : v.data.toList with
          | nil => rfl
          | cons c r =>
            rw [hl] at hs
            simp only [isSafeL, Bool.and_eq_true, Bool.not_eq_true'] at hs
            have := hs.1.1.1.2
            rw [pre_cons] at this
            exact trimLeft_ne (by rw [Bool.beq_comm]; exact this)
        rw [readL, show n.data.toList ++ [58, 32] ++ v.data.toList = n.data.toList ++ 58 :: (32 :: v.data.toList) by simp, cut_hit h2]
        simp only
        rw [if_neg (by simp [h1]), if_neg (by rw [pre_cons]; decide), if_neg (by rw [pre_cons]; decide), ht, if_pos hs]
      · rw [if_neg hs] at h'
        subst h'
        have := read_base hn v 1
        rw [show n.data.toList ++ [58, 58] ++ (List.replicate 1 32 ++ (baseB v).data.toList) = n.data.toList ++ [58, 58, 32] ++ (baseB v).data.toList by simp] at this
        exact this
  · rw [if_neg hn] at h; cases h
/-- An item's line: each of its bytes may stand in a text. -/
theorem item_line {n v s : ByteArray} (h : itemL n v = some s) : hasOtherR s.data.toList = false ∧ (10 : UInt8) ∉ s.data.toList ∧ (13 : UInt8) ∉ s.data.toList ∧ Lib.hasPrefix s.data.toList [32] = false ∧ isNote s = false := by
  have key : ∀ (l : List UInt8), l ≠ [] → Lib.hasPrefix l [35] = false → (∀ c, c ∈ l → 33 ≤ c.toNat ∧ c.toNat ≤ 126) → ∀ (r : List UInt8), hasOther r = false → s.data.toList = l ++ r →
      hasOtherR s.data.toList = false ∧ (10 : UInt8) ∉ s.data.toList ∧ (13 : UInt8) ∉ s.data.toList ∧ Lib.hasPrefix s.data.toList [32] = false ∧ isNote s = false := by
    intro l hne hp hl r hr e
    rw [hasOther, List.any_eq_false] at hr
    have hr' : ∀ c, c ∈ r → c.toNat ≠ 0 ∧ c.toNat ≠ 10 ∧ c.toNat ≠ 13 ∧ c.toNat < 128 := fun c hc => by
      have := hr c hc
      simp [otherP] at this
      omega
    rw [isNote, e]
    have ha : ∀ c, c ∈ l ++ r → c.toNat ≠ 0 ∧ c.toNat ≠ 10 ∧ c.toNat ≠ 13 ∧ c.toNat < 128 := fun c hc => by
      rcases List.mem_append.1 hc with h | h
      · have := hl c h; omega
      · exact hr' c h
    refine ⟨?_, fun hm => (ha _ hm).2.1 rfl, fun hm => (ha _ hm).2.2.1 rfl, ?_, ?_⟩
    · rw [hasOtherR, List.any_eq_false]
      intro c hc
      have := ha c hc
      simp [otherR]; omega
    · cases l with
      | nil => exact absurd rfl hne
      | cons c q =>
        rw [List.cons_append, pre_cons, beq_eq_false_iff_ne]
        rintro rfl
        exact absurd (hl 32 (by simp)).1 (by decide)
    · cases l with
      | nil => exact absurd rfl hne
      | cons c q => rw [List.cons_append, pre_cons]; rw [pre_cons] at hp; exact hp
  unfold itemL at h
  by_cases hn : isNameL n.data.toList = true
  · rw [if_pos hn] at h
    obtain ⟨h1, h2, h3, h4⟩ := name_parts hn
    have h' := Option.some.inj h
    clear h
    by_cases hv : v.data.toList = []
    · rw [if_pos hv] at h'
      exact key _ h1 h4 h3 [58] (by decide) (by rw [← h'])
    · rw [if_neg hv] at h'
      by_cases hs : isSafeL v.data.toList = true
      · rw [if_pos hs] at h'
        refine key _ h1 h4 h3 ([58, 32] ++ v.data.toList) ?_ (by rw [← h']; simp)
        simp only [isSafeL, Bool.and_eq_true, Bool.not_eq_true'] at hs
        rw [hasOther, List.any_append]
        have := hs.1.1.1.1
        rw [hasOther] at this
        rw [this]; decide
      · rw [if_neg hs] at h'
        refine key _ h1 h4 h3 ([58, 58, 32] ++ (baseB v).data.toList) ?_ (by rw [← h']; simp)
        rw [hasOther, List.any_eq_false]
        intro c hc
        rcases List.mem_append.1 hc with h | h
        · simp at h
          rcases h with rfl | rfl <;> decide
        · have := baseB_range v c h
          simp [otherP]; omega
  · rw [if_neg hn] at h; cases h
theorem item_length {n v s : ByteArray} (h : itemL n v = some s) : s.size ≤ n.size + 3 + (v.size + (4 * v.size + 4)) := by
  have hb : (baseB v).size ≤ 4 * v.size + 4 := by rw [baseB_size]; unfold nPieces; omega
  unfold itemL at h
  by_cases hn : isNameL n.data.toList = true
  · rw [if_pos hn] at h
    have h' := Option.some.inj h
    split at h'
    · subst h'; rw [size_mk]; simp; omega
    · split at h'
      · subst h'; rw [size_mk]; simp; omega
      · subst h'; rw [size_mk]
        have e : (baseB v).data.toList.length = (baseB v).size := by simp
        rw [List.length_append, e]; simp; omega
  · rw [if_neg hn] at h; cases h
theorem item_name (n v : ByteArray) : (itemL n v).isSome = isNameL n.data.toList := by
  unfold itemL
  by_cases hn : isNameL n.data.toList = true
  · rw [if_pos hn, hn]; rfl
  · rw [if_neg hn]; simp at hn; rw [hn]; rfl
end Go.Proofs.YtbocflglknkiaaaGreatDoor
