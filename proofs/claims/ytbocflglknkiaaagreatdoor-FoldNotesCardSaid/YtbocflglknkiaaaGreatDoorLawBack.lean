/- latinerlaw15.FoldBack: true. -/
import Derived.Test.YtbocflglknkiaaaGreatDoorShown
namespace Go.Proofs.YtbocflglknkiaaaGreatDoor
open Go.RowKit Go.Shelf

/-- The law's word 'bad'. -/
def badC (c : UInt8) : Bool := c == 0 || decide (127 < c.toNat)
def badH (r : List UInt8) : Bool := Lib.hasPrefix r [32] || Lib.hasPrefix r [35]
def badL (r : List UInt8) : Bool := badH r || r.any badC
theorem badC_other {r : List UInt8} (h : r.any badC = false) (h13 : (13 : UInt8) ∉ r) : hasOtherR r = false := by
  rw [hasOtherR, List.any_eq_false]
  rw [List.any_eq_false] at h
  intro c hc
  have h1 := h c hc
  have h2 : c ≠ 13 := fun e => h13 (e ▸ hc)
  simp only [badC, Bool.or_eq_true, beq_iff_eq, decide_eq_true_eq, not_or] at h1
  simp only [otherR, Bool.or_eq_true, beq_iff_eq, decide_eq_true_eq, not_or]
  refine ⟨⟨fun e => h1.1 (UInt8.toNat_inj.1 e), fun e => h2 (UInt8.toNat_inj.1 e)⟩, h1.2⟩
theorem crlf_no {r : List UInt8} (h : hasCrlf r = false) : (10 : UInt8) ∉ r ∧ (13 : UInt8) ∉ r := by
  rw [hasCrlf, List.any_eq_false] at h
  exact ⟨fun hm => h _ hm (by decide), fun hm => h _ hm (by decide)⟩
theorem back_good {r : ByteArray} (hs : r.size ≤ 3000) (hc : hasCrlf r.data.toList = false) (hb : badL r.data.toList = false) : unfoldL ⟨(foldT r.data.toList).toArray⟩ = .ok [r] := by
  obtain ⟨h10, h13⟩ := crlf_no hc
  rw [badL, Bool.or_eq_false_iff, badH, Bool.or_eq_false_iff] at hb
  have hl := foldT_length r.data.toList
  have h8 : r.data.toList.length = r.size := by simp
  rw [unfoldL_eq, if_neg (by rw [size_mk]; omega), lines_fold _ h10 (badC_other hb.2 h13) hb.1.1]
  have e : asB r.data.toList = r := bytes_ext (by simp [asB])
  have hn : isNote r = false := hb.1.2
  simp only [e, List.filter_cons, hn, List.filter_nil]
  rfl


theorem bad_step (r : ByteArray) (k : Nat) (h : k < r.size) : (badH r.data.toList || (r.data.toList.take (k + 1)).any badC) = ((badH r.data.toList || (r.data.toList.take k).any badC) || badC r[k]) := by
  have e : r.data.toList.take (k + 1) = r.data.toList.take k ++ [r[k]] := by
    rw [List.take_succ_eq_append_getElem (by simpa using h)]; rfl
  rw [e, List.any_append, ← Bool.or_assoc]; simp
def UnAny (r : ByteArray) (w : World) (e : Ending) (w' : World) : Prop := ∃ (v : Value) (n : Int) (l : List ByteArray), e = .returned (.tuple #[v, .int .i64 n]) ∧ (Holds v l w' ∧ l.length ≤ 1000000) ∧ Below w.heap.size w w' ∧ Hid (badL r.data.toList = false → n = 0 ∧ l = [r])
theorem stU_len : ∀ (rows : List (List UInt8)) (l : List ByteArray) (op : Bool) (q : List ByteArray × Bool), rows.foldl stepU (some (l, op)) = some q → q.1.length ≤ l.length + rows.length
  | [], l, op, q, h => by
    obtain rfl := Option.some.inj h
    exact Nat.le_refl _
  | r :: rs, l, op, q, h => by
    rw [List.foldl_cons] at h
    by_cases hb : badRow op (asB r) = true
    · have e : stepU (some (l, op)) r = none := by simp [stepU, hb]
      rw [e, foldl_none] at h; cases h
    · have e : stepU (some (l, op)) r = some (addRow l (asB r), !(asB r).toList.isEmpty) := by simp only [stepU, Option.bind_some, if_neg hb]
      rw [e] at h
      have h1 := stU_len rs _ _ q h
      have h2 := addRow_length l (asB r)
      rw [List.length_cons]; omega
theorem unfoldL_len {s : ByteArray} {l : List ByteArray} (h : unfoldL s = .ok l) : l.length ≤ 8000 := by
  unfold unfoldL at h
  split at h
  · cases h
  · split at h
    · cases h
    · rename_i q hq
      injection h with h
      subst h
      have h1 := stU_len _ _ _ _ hq
      have h2 := rowsL_length _ s.data.toList (Nat.le_refl _)
      have h3 : s.data.toList.length = s.size := by simp
      have h4 := List.length_filter_le (fun x => !isNote x) q.1
      simp at h1
      omega
theorem Unfold_back (G : Nat → Addr) (r t : ByteArray) (hs : t.size ≤ 1000000) (w : World) (hE : Env G w) (hg : badL r.data.toList = false → unfoldL t = .ok [r]) :
    Calls Tryz.prog 11 #[.string t] w (UnAny r w) := by
  cases hu : unfoldL t with
  | ok l =>
    refine (Unfold_ok G t hs w hE hu).mono ?_
    rintro e w' ⟨v, rfl, hT, hB⟩
    refine ⟨v, 0, l, rfl, ⟨hT.holds, by have := unfoldL_len hu; omega⟩, hB, Lib.hid (fun hb => ⟨rfl, ?_⟩)⟩
    have := hg hb
    rw [hu] at this
    exact UF.ok.inj this
  | bad g =>
    refine (Unfold_bad G t hs w hE hu).mono ?_
    rintro e w' ⟨rfl, hB⟩
    refine ⟨_, _, [], rfl, ⟨holds_nil _, by simp⟩, hB, Lib.hid (fun hb => ?_)⟩
    have := hg hb
    rw [hu] at this
    cases this

set_option maxHeartbeats 3000000 in
set_option maxRecDepth 100000 in
theorem FoldBack_any (G : Nat → Addr) (s : ByteArray) (hs : s.size ≤ 140737488351232) (w : World) (hE : Env G w) : Calls Tryz.prog 3 #[.string s] w fun e w' => e = .returned (.bool true) ∧ Below w.heap.size w w' := by
  have hmin : (min (s.size : Int) 3000).toNat = min s.size 3000 := by omega
  have HE := Lib.hid hE
  have Hsh := Lib.hid (shown_any G w hE)
  clear hE
  go_enter Tryz.func3, Tryz.ntmps3
  go_wp2_with fail
  refine Hsh.out.mono ?_
  rintro e w1 ⟨rfl, hB1⟩
  have HE1 := Lib.hid (HE.out.below hB1)
  have HB1 := Lib.hid hB1
  clear hB1 HE Hsh
  go_wp2_with fail
  obtain ⟨r, hr⟩ : ∃ r, r = s.extract 0 (min s.size 3000) := ⟨_, rfl⟩
  have hr3 : r.size ≤ 3000 := by rw [hr, ByteArray.size_extract]; omega
  rw [← hr]
  clear hr hmin hs
  by_cases hc : hasCrlf r.data.toList = true
  · have Hv := Lib.hid (show foldV r = .tuple #[.string ⟨#[]⟩, .int .i64 150] by unfold foldV; rw [if_neg (by omega), if_pos hc])
    clear hc
    refine (Fold_any G r (by omega) w1 HE1.out).mono ?_
    rintro e w2 ⟨rfl, hB2⟩
    rw [Hv.out]
    have HE2 := Lib.hid (HE1.out.below hB2)
    have HB2 := Lib.hid (HB1.out.trans (hB2.mono HB1.out.size))
    clear hB2 HE1 HB1
    go_wp2_with fail
    refine (Unfold_ok G ⟨#[]⟩ (by decide) w2 HE2.out (l := []) (by kernel_rfl)).mono ?_
    rintro e w3 ⟨v, rfl, _, hB3⟩
    have HB3 := Lib.hid (HB2.out.trans (hB3.mono HB2.out.size))
    clear hB3 HE2 HB2
    go_wp2
    go_ret
    exact ⟨rfl, HB3.out⟩
  · rw [Bool.not_eq_true] at hc
    have Hv := Lib.hid (show foldV r = .tuple #[.string ⟨(foldT r.data.toList).toArray⟩, .int .i64 0] by unfold foldV; rw [if_neg (by omega), if_neg (by simp [hc])])
    have hbg := back_good hr3 hc
    have hnar := narrow_foldT r.data.toList
    obtain ⟨t, ht⟩ : ∃ t : ByteArray, t = ⟨(foldT r.data.toList).toArray⟩ := ⟨_, rfl⟩
    have hte : ∃ q, t.data.toList = q ++ [10] := by rw [ht]; exact foldF_end _ _ _
    have hts : t.size ≤ 10000 := by
      rw [ht, size_mk]
      have h1 := foldT_length r.data.toList
      have h2 : r.data.toList.length = r.size := by simp
      omega
    have hnt : narrow 0 t.data.toList = true := by rw [ht]; exact hnar
    rw [← ht] at hbg Hv
    clear hnar hc ht
    have Hun := fun W h => Lib.hid (Unfold_back G r t (by omega) W h hbg)
    have Hnt := Lib.hid hnt
    have Hte := Lib.hid hte
    clear hbg hnt hte
    refine (Fold_any G r (by omega) w1 HE1.out).mono ?_
    rintro e w2 ⟨rfl, hB2⟩
    rw [Hv.out]
    have HE2 := Lib.hid (HE1.out.below hB2)
    have HB2 := Lib.hid (HB1.out.trans (hB2.mono HB1.out.size))
    have Hu := Hun w2 HE2.out
    clear hB2 HE1 HB1 Hun
    go_wp2_with fail
    refine Hu.out.mono ?_
    rintro e w3 ⟨v, n, l, rfl, hH, hB3, hG⟩
    have HB3 := Lib.hid (HB2.out.trans (hB3.mono HB2.out.size))
    have HH := Lib.hid hH
    clear hB3 hH HE2 HB2 Hu Hv
    have hcase : r.data.toList = [] ∨ ∃ c q, r.data.toList = c :: q := by
      cases r.data.toList with
      | nil => exact .inl rfl
      | cons c q => exact .inr ⟨c, q, rfl⟩
    rcases hcase with hnil | ⟨c, q, hcons⟩
    · have Hb0 := Lib.hid (show badH r.data.toList = false by rw [hnil]; rfl)
      have hrt : r.toList = [] := by rw [ByteArray.toList_eq, hnil]
      clear hnil
      go_wp2
      go_loop [9, 10] (fun p i => ∃ (k : Nat) (b : Bool), p = .bool b ∧ i = .int .i64 k ∧ k ≤ r.size ∧ Hid (b = (badH r.data.toList || (r.data.toList.take k).any badC))) (fun _ i => r.size - (intOf i).toNat)
      case atStart => exact ⟨0, _, rfl, rfl, Nat.zero_le _, Lib.hid (by rw [Hb0.out]; rfl)⟩
      case round =>
        obtain ⟨k, b, rfl, rfl, hk, hb⟩ := hrel
        by_cases hlt : k < r.size
        · have hst := Lib.hid (bad_step r k hlt)
          cases b with
          | true =>
            go_wp2
            go_round
            case rel => exact ⟨k + 1, true, rfl, by go_num, hlt, Lib.hid (by rw [hst.out, ← hb.out]; rfl)⟩
            case measure => simp [intOf]; omega
          | false =>
            by_cases hz : r[k] = 0
            · have e0 : ((r[k].toNat : Int) == 0) = true := by rw [hz]; rfl
              have Hz := Lib.hid (show badC r[k] = true by rw [hz]; rfl)
              clear hz
              go_wp2
              go_round
              case rel => exact ⟨k + 1, true, rfl, by go_num, hlt, Lib.hid (by rw [hst.out, ← hb.out, Hz.out]; rfl)⟩
              case measure => simp [intOf]; omega
            · have e0 : ((r[k].toNat : Int) == 0) = false := by rw [beq_eq_false_iff_ne]; exact fun e => hz (UInt8.toNat_inj.1 (by have : (0 : UInt8).toNat = 0 := rfl; omega))
              by_cases h7 : 127 < r[k].toNat
              · have e7 : decide ((127 : Int) < (r[k].toNat : Int)) = true := by simp; omega
                have Hz := Lib.hid (show badC r[k] = true by simp [badC, h7])
                clear hz h7
                go_wp2
                go_round
                case rel => exact ⟨k + 1, true, rfl, by go_num, hlt, Lib.hid (by rw [hst.out, ← hb.out, Hz.out]; rfl)⟩
                case measure => simp [intOf]; omega
              · have e7 : decide ((127 : Int) < (r[k].toNat : Int)) = false := by simp; omega
                have Hz := Lib.hid (show badC r[k] = false by simp [badC, h7, hz])
                clear hz h7
                go_wp2
                go_round
                case rel => exact ⟨k + 1, false, rfl, by go_num, hlt, Lib.hid (by rw [hst.out, ← hb.out, Hz.out]; rfl)⟩
                case measure => simp [intOf]; omega
        · have hbl := hb.out
          rw [List.take_of_length_le (by have : r.data.toList.length = r.size := by simp
                                         omega)] at hbl
          have Hbl := Lib.hid (show b = badL r.data.toList from hbl)
          clear hb hbl
          go_wp2
          go_loop [8, 11] (fun p i => ∃ (j m : Nat), p = .int .i64 m ∧ i = .int .i64 j ∧ j ≤ t.size ∧ m ≤ 76 ∧ Hid (narrow m (t.data.toList.drop j) = true)) (fun _ i => t.size - (intOf i).toNat)
          case atStart => exact ⟨0, 0, rfl, rfl, Nat.zero_le _, by omega, Hnt⟩
          case round =>
            obtain ⟨j, m, rfl, rfl, hj, hm, hn⟩ := hrel
            by_cases hjt : j < t.size
            · have hd : t.data.toList.drop j = t[j] :: t.data.toList.drop (j + 1) := by
                rw [List.drop_eq_getElem_cons (by simpa using hjt)]; rfl
              have hn1 := hn.out
              rw [hd, narrow] at hn1
              by_cases h10 : t[j] = 10
              · have e10 : ((t[j].toNat : Int) == 10) = true := by rw [h10]; rfl
                rw [if_pos h10] at hn1
                have HN := Lib.hid hn1
                clear h10 hn1 hd hn
                go_wp2
                go_round
                case rel => exact ⟨j + 1, 0, rfl, by go_num, hjt, by omega, HN⟩
                case measure => simp [intOf]; omega
              · have e10 : ((t[j].toNat : Int) == 10) = false := by rw [beq_eq_false_iff_ne]; exact fun e => h10 (UInt8.toNat_inj.1 (by have : (10 : UInt8).toNat = 10 := rfl; omega))
                rw [if_neg h10] at hn1
                have hm2 : m + 1 ≤ 76 := by
                  rcases Nat.lt_or_ge 76 (m + 1) with h | h
                  · rw [if_neg (by omega)] at hn1; cases hn1
                  · exact h
                rw [if_pos hm2] at hn1
                have e76 : decide ((76 : Int) < (m : Int) + 1) = false := by simp; omega
                have HN := Lib.hid hn1
                clear h10 hn1 hd hn
                go_wp2
                go_round
                case rel => exact ⟨j + 1, m + 1, by go_num, by go_num, hjt, hm2, HN⟩
                case measure => simp [intOf]; omega
            · clear hn
              obtain ⟨q9, hq9⟩ := Hte.out
              have h8 : t.data.toList.length = t.size := by simp
              have h1t : 1 ≤ t.size := by rw [← h8, hq9]; simp
              have h1i : (1 : Int) ≤ (t.size : Int) := by omega
              have hidx : ((t.size : Int) - 1).toNat = t.size - 1 := by omega
              have hlast : (t.extract (t.size - 1) t.size).toList = [10] := by
                rw [ByteArray.toList_eq]
                simp only [ByteArray.data_extract, Array.toList_extract, List.extract_eq_take_drop]
                rw [← h8, hq9]; simp
              have HH2 := Lib.hid (show Holds v l w3 ∧ l.length ≤ 1000000 from HH.out)
              clear hq9 h8 HH
              cases b with
              | true =>
                go_wp2
                go_ret
                exact ⟨rfl, HB3.out⟩
              | false =>
                obtain ⟨rfl, rfl⟩ := hG.out Hbl.out.symm
                go_wp2_with fail
                refine (Texts_any v _ [r] [r] _ (HH2.out.1.below ((Below.refl _ _).alloc (Nat.le_refl _) _)) (holds_lit [r] 9 w3) (by simp) (by simp)).mono ?_
                rintro e w7 ⟨rfl, hB7⟩
                rw [show decide ([r] = [r]) = true from decide_eq_true rfl]
                have HB7 := Lib.hid (HB3.out.trans (((Below.refl _ w3).alloc (Nat.le_refl _) _).trans (hB7.mono (by simp)) |>.mono HB3.out.size))
                clear hB7
                go_wp2
                go_ret
                exact ⟨rfl, HB7.out⟩
    · have hne : r.toList.isEmpty = false := by rw [ByteArray.toList_eq, hcons]; rfl
      have hne2 : (r.toList == []) = false := by rw [beq_eq_false_iff_ne, ByteArray.toList_eq, hcons]; simp
      have h0 : 0 < r.size := by
        have : r.data.toList.length = r.size := by simp
        rw [hcons] at this; simp at this; omega
      have hr0 : r[0] = c := by
        have : r.data.toList[0]? = some c := by rw [hcons]; rfl
        have h2 : r.data.toList[0]? = some r[0] := by
          rw [List.getElem?_eq_getElem (by simpa using h0)]; rfl
        rw [h2] at this; exact Option.some.inj this
      have hbh : badH r.data.toList = ((32 : UInt8) == c || (35 : UInt8) == c) := by rw [badH, hcons, pre_cons, pre_cons]
      rw [← hr0] at hbh
      clear hcons hr0
      by_cases h32 : r[0] = 32
      · have Hb0 := Lib.hid (show badH r.data.toList = true by rw [hbh, h32]; rfl)
        have e32 : ((r[0].toNat : Int) == 32) = true := by rw [h32]; rfl
        clear hbh h32
        go_wp2
        go_loop [9, 10] (fun p i => ∃ (k : Nat) (b : Bool), p = .bool b ∧ i = .int .i64 k ∧ k ≤ r.size ∧ Hid (b = (badH r.data.toList || (r.data.toList.take k).any badC))) (fun _ i => r.size - (intOf i).toNat)
        case atStart => exact ⟨0, _, rfl, rfl, Nat.zero_le _, Lib.hid (by rw [Hb0.out]; rfl)⟩
        case round =>
          obtain ⟨k, b, rfl, rfl, hk, hb⟩ := hrel
          by_cases hlt : k < r.size
          · have hst := Lib.hid (bad_step r k hlt)
            cases b with
            | true =>
              go_wp2
              go_round
              case rel => exact ⟨k + 1, true, rfl, by go_num, hlt, Lib.hid (by rw [hst.out, ← hb.out]; rfl)⟩
              case measure => simp [intOf]; omega
            | false =>
              by_cases hz : r[k] = 0
              · have e0 : ((r[k].toNat : Int) == 0) = true := by rw [hz]; rfl
                have Hz := Lib.hid (show badC r[k] = true by rw [hz]; rfl)
                clear hz
                go_wp2
                go_round
                case rel => exact ⟨k + 1, true, rfl, by go_num, hlt, Lib.hid (by rw [hst.out, ← hb.out, Hz.out]; rfl)⟩
                case measure => simp [intOf]; omega
              · have e0 : ((r[k].toNat : Int) == 0) = false := by rw [beq_eq_false_iff_ne]; exact fun e => hz (UInt8.toNat_inj.1 (by have : (0 : UInt8).toNat = 0 := rfl; omega))
                by_cases h7 : 127 < r[k].toNat
                · have e7 : decide ((127 : Int) < (r[k].toNat : Int)) = true := by simp; omega
                  have Hz := Lib.hid (show badC r[k] = true by simp [badC, h7])
                  clear hz h7
                  go_wp2
                  go_round
                  case rel => exact ⟨k + 1, true, rfl, by go_num, hlt, Lib.hid (by rw [hst.out, ← hb.out, Hz.out]; rfl)⟩
                  case measure => simp [intOf]; omega
                · have e7 : decide ((127 : Int) < (r[k].toNat : Int)) = false := by simp; omega
                  have Hz := Lib.hid (show badC r[k] = false by simp [badC, h7, hz])
                  clear hz h7
                  go_wp2
                  go_round
                  case rel => exact ⟨k + 1, false, rfl, by go_num, hlt, Lib.hid (by rw [hst.out, ← hb.out, Hz.out]; rfl)⟩
                  case measure => simp [intOf]; omega
          · have hbl := hb.out
            rw [List.take_of_length_le (by have : r.data.toList.length = r.size := by simp
                                           omega)] at hbl
            have Hbl := Lib.hid (show b = badL r.data.toList from hbl)
            clear hb hbl
            go_wp2
            go_loop [8, 11] (fun p i => ∃ (j m : Nat), p = .int .i64 m ∧ i = .int .i64 j ∧ j ≤ t.size ∧ m ≤ 76 ∧ Hid (narrow m (t.data.toList.drop j) = true)) (fun _ i => t.size - (intOf i).toNat)
            case atStart => exact ⟨0, 0, rfl, rfl, Nat.zero_le _, by omega, Hnt⟩
            case round =>
              obtain ⟨j, m, rfl, rfl, hj, hm, hn⟩ := hrel
              by_cases hjt : j < t.size
              · have hd : t.data.toList.drop j = t[j] :: t.data.toList.drop (j + 1) := by
                  rw [List.drop_eq_getElem_cons (by simpa using hjt)]; rfl
                have hn1 := hn.out
                rw [hd, narrow] at hn1
                by_cases h10 : t[j] = 10
                · have e10 : ((t[j].toNat : Int) == 10) = true := by rw [h10]; rfl
                  rw [if_pos h10] at hn1
                  have HN := Lib.hid hn1
                  clear h10 hn1 hd hn
                  go_wp2
                  go_round
                  case rel => exact ⟨j + 1, 0, rfl, by go_num, hjt, by omega, HN⟩
                  case measure => simp [intOf]; omega
                · have e10 : ((t[j].toNat : Int) == 10) = false := by rw [beq_eq_false_iff_ne]; exact fun e => h10 (UInt8.toNat_inj.1 (by have : (10 : UInt8).toNat = 10 := rfl; omega))
                  rw [if_neg h10] at hn1
                  have hm2 : m + 1 ≤ 76 := by
                    rcases Nat.lt_or_ge 76 (m + 1) with h | h
                    · rw [if_neg (by omega)] at hn1; cases hn1
                    · exact h
                  rw [if_pos hm2] at hn1
                  have e76 : decide ((76 : Int) < (m : Int) + 1) = false := by simp; omega
                  have HN := Lib.hid hn1
                  clear h10 hn1 hd hn
                  go_wp2
                  go_round
                  case rel => exact ⟨j + 1, m + 1, by go_num, by go_num, hjt, hm2, HN⟩
                  case measure => simp [intOf]; omega
              · clear hn
                obtain ⟨q9, hq9⟩ := Hte.out
                have h8 : t.data.toList.length = t.size := by simp
                have h1t : 1 ≤ t.size := by rw [← h8, hq9]; simp
                have h1i : (1 : Int) ≤ (t.size : Int) := by omega
                have hidx : ((t.size : Int) - 1).toNat = t.size - 1 := by omega
                have hlast : (t.extract (t.size - 1) t.size).toList = [10] := by
                  rw [ByteArray.toList_eq]
                  simp only [ByteArray.data_extract, Array.toList_extract, List.extract_eq_take_drop]
                  rw [← h8, hq9]; simp
                have HH2 := Lib.hid (show Holds v l w3 ∧ l.length ≤ 1000000 from HH.out)
                clear hq9 h8 HH
                cases b with
                | true =>
                  go_wp2
                  go_ret
                  exact ⟨rfl, HB3.out⟩
                | false =>
                  obtain ⟨rfl, rfl⟩ := hG.out Hbl.out.symm
                  go_wp2_with fail
                  refine (Texts_any v _ [r] [r] _ (HH2.out.1.below ((Below.refl _ _).alloc (Nat.le_refl _) _)) (holds_lit [r] 9 w3) (by simp) (by simp)).mono ?_
                  rintro e w7 ⟨rfl, hB7⟩
                  rw [show decide ([r] = [r]) = true from decide_eq_true rfl]
                  have HB7 := Lib.hid (HB3.out.trans (((Below.refl _ w3).alloc (Nat.le_refl _) _).trans (hB7.mono (by simp)) |>.mono HB3.out.size))
                  clear hB7
                  go_wp2
                  go_ret
                  exact ⟨rfl, HB7.out⟩
      · by_cases h35 : r[0] = 35
        · have Hb0 := Lib.hid (show badH r.data.toList = true by rw [hbh, h35]; rfl)
          have e32 : ((r[0].toNat : Int) == 32) = false := by rw [h35]; rfl
          have e35 : ((r[0].toNat : Int) == 35) = true := by rw [h35]; rfl
          clear hbh h32 h35
          go_wp2
          go_loop [9, 10] (fun p i => ∃ (k : Nat) (b : Bool), p = .bool b ∧ i = .int .i64 k ∧ k ≤ r.size ∧ Hid (b = (badH r.data.toList || (r.data.toList.take k).any badC))) (fun _ i => r.size - (intOf i).toNat)
          case atStart => exact ⟨0, _, rfl, rfl, Nat.zero_le _, Lib.hid (by rw [Hb0.out]; rfl)⟩
          case round =>
            obtain ⟨k, b, rfl, rfl, hk, hb⟩ := hrel
            by_cases hlt : k < r.size
            · have hst := Lib.hid (bad_step r k hlt)
              cases b with
              | true =>
                go_wp2
                go_round
                case rel => exact ⟨k + 1, true, rfl, by go_num, hlt, Lib.hid (by rw [hst.out, ← hb.out]; rfl)⟩
                case measure => simp [intOf]; omega
              | false =>
                by_cases hz : r[k] = 0
                · have e0 : ((r[k].toNat : Int) == 0) = true := by rw [hz]; rfl
                  have Hz := Lib.hid (show badC r[k] = true by rw [hz]; rfl)
                  clear hz
                  go_wp2
                  go_round
                  case rel => exact ⟨k + 1, true, rfl, by go_num, hlt, Lib.hid (by rw [hst.out, ← hb.out, Hz.out]; rfl)⟩
                  case measure => simp [intOf]; omega
                · have e0 : ((r[k].toNat : Int) == 0) = false := by rw [beq_eq_false_iff_ne]; exact fun e => hz (UInt8.toNat_inj.1 (by have : (0 : UInt8).toNat = 0 := rfl; omega))
                  by_cases h7 : 127 < r[k].toNat
                  · have e7 : decide ((127 : Int) < (r[k].toNat : Int)) = true := by simp; omega
                    have Hz := Lib.hid (show badC r[k] = true by simp [badC, h7])
                    clear hz h7
                    go_wp2
                    go_round
                    case rel => exact ⟨k + 1, true, rfl, by go_num, hlt, Lib.hid (by rw [hst.out, ← hb.out, Hz.out]; rfl)⟩
                    case measure => simp [intOf]; omega
                  · have e7 : decide ((127 : Int) < (r[k].toNat : Int)) = false := by simp; omega
                    have Hz := Lib.hid (show badC r[k] = false by simp [badC, h7, hz])
                    clear hz h7
                    go_wp2
                    go_round
                    case rel => exact ⟨k + 1, false, rfl, by go_num, hlt, Lib.hid (by rw [hst.out, ← hb.out, Hz.out]; rfl)⟩
                    case measure => simp [intOf]; omega
            · have hbl := hb.out
              rw [List.take_of_length_le (by have : r.data.toList.length = r.size := by simp
                                             omega)] at hbl
              have Hbl := Lib.hid (show b = badL r.data.toList from hbl)
              clear hb hbl
              go_wp2
              go_loop [8, 11] (fun p i => ∃ (j m : Nat), p = .int .i64 m ∧ i = .int .i64 j ∧ j ≤ t.size ∧ m ≤ 76 ∧ Hid (narrow m (t.data.toList.drop j) = true)) (fun _ i => t.size - (intOf i).toNat)
              case atStart => exact ⟨0, 0, rfl, rfl, Nat.zero_le _, by omega, Hnt⟩
              case round =>
                obtain ⟨j, m, rfl, rfl, hj, hm, hn⟩ := hrel
                by_cases hjt : j < t.size
                · have hd : t.data.toList.drop j = t[j] :: t.data.toList.drop (j + 1) := by
                    rw [List.drop_eq_getElem_cons (by simpa using hjt)]; rfl
                  have hn1 := hn.out
                  rw [hd, narrow] at hn1
                  by_cases h10 : t[j] = 10
                  · have e10 : ((t[j].toNat : Int) == 10) = true := by rw [h10]; rfl
                    rw [if_pos h10] at hn1
                    have HN := Lib.hid hn1
                    clear h10 hn1 hd hn
                    go_wp2
                    go_round
                    case rel => exact ⟨j + 1, 0, rfl, by go_num, hjt, by omega, HN⟩
                    case measure => simp [intOf]; omega
                  · have e10 : ((t[j].toNat : Int) == 10) = false := by rw [beq_eq_false_iff_ne]; exact fun e => h10 (UInt8.toNat_inj.1 (by have : (10 : UInt8).toNat = 10 := rfl; omega))
                    rw [if_neg h10] at hn1
                    have hm2 : m + 1 ≤ 76 := by
                      rcases Nat.lt_or_ge 76 (m + 1) with h | h
                      · rw [if_neg (by omega)] at hn1; cases hn1
                      · exact h
                    rw [if_pos hm2] at hn1
                    have e76 : decide ((76 : Int) < (m : Int) + 1) = false := by simp; omega
                    have HN := Lib.hid hn1
                    clear h10 hn1 hd hn
                    go_wp2
                    go_round
                    case rel => exact ⟨j + 1, m + 1, by go_num, by go_num, hjt, hm2, HN⟩
                    case measure => simp [intOf]; omega
                · clear hn
                  obtain ⟨q9, hq9⟩ := Hte.out
                  have h8 : t.data.toList.length = t.size := by simp
                  have h1t : 1 ≤ t.size := by rw [← h8, hq9]; simp
                  have h1i : (1 : Int) ≤ (t.size : Int) := by omega
                  have hidx : ((t.size : Int) - 1).toNat = t.size - 1 := by omega
                  have hlast : (t.extract (t.size - 1) t.size).toList = [10] := by
                    rw [ByteArray.toList_eq]
                    simp only [ByteArray.data_extract, Array.toList_extract, List.extract_eq_take_drop]
                    rw [← h8, hq9]; simp
                  have HH2 := Lib.hid (show Holds v l w3 ∧ l.length ≤ 1000000 from HH.out)
                  clear hq9 h8 HH
                  cases b with
                  | true =>
                    go_wp2
                    go_ret
                    exact ⟨rfl, HB3.out⟩
                  | false =>
                    obtain ⟨rfl, rfl⟩ := hG.out Hbl.out.symm
                    go_wp2_with fail
                    refine (Texts_any v _ [r] [r] _ (HH2.out.1.below ((Below.refl _ _).alloc (Nat.le_refl _) _)) (holds_lit [r] 9 w3) (by simp) (by simp)).mono ?_
                    rintro e w7 ⟨rfl, hB7⟩
                    rw [show decide ([r] = [r]) = true from decide_eq_true rfl]
                    have HB7 := Lib.hid (HB3.out.trans (((Below.refl _ w3).alloc (Nat.le_refl _) _).trans (hB7.mono (by simp)) |>.mono HB3.out.size))
                    clear hB7
                    go_wp2
                    go_ret
                    exact ⟨rfl, HB7.out⟩
        · have Hb0 := Lib.hid (show badH r.data.toList = false by rw [hbh, Bool.or_eq_false_iff, beq_eq_false_iff_ne, beq_eq_false_iff_ne]; exact ⟨fun e => h32 e.symm, fun e => h35 e.symm⟩)
          have e32 : ((r[0].toNat : Int) == 32) = false := by rw [beq_eq_false_iff_ne]; exact fun e => h32 (UInt8.toNat_inj.1 (by have : (32 : UInt8).toNat = 32 := rfl; omega))
          have e35 : ((r[0].toNat : Int) == 35) = false := by rw [beq_eq_false_iff_ne]; exact fun e => h35 (UInt8.toNat_inj.1 (by have : (35 : UInt8).toNat = 35 := rfl; omega))
          clear hbh h32 h35
          go_wp2
          go_loop [9, 10] (fun p i => ∃ (k : Nat) (b : Bool), p = .bool b ∧ i = .int .i64 k ∧ k ≤ r.size ∧ Hid (b = (badH r.data.toList || (r.data.toList.take k).any badC))) (fun _ i => r.size - (intOf i).toNat)
          case atStart => exact ⟨0, _, rfl, rfl, Nat.zero_le _, Lib.hid (by rw [Hb0.out]; rfl)⟩
          case round =>
            obtain ⟨k, b, rfl, rfl, hk, hb⟩ := hrel
            by_cases hlt : k < r.size
            · have hst := Lib.hid (bad_step r k hlt)
              cases b with
              | true =>
                go_wp2
                go_round
                case rel => exact ⟨k + 1, true, rfl, by go_num, hlt, Lib.hid (by rw [hst.out, ← hb.out]; rfl)⟩
                case measure => simp [intOf]; omega
              | false =>
                by_cases hz : r[k] = 0
                · have e0 : ((r[k].toNat : Int) == 0) = true := by rw [hz]; rfl
                  have Hz := Lib.hid (show badC r[k] = true by rw [hz]; rfl)
                  clear hz
                  go_wp2
                  go_round
                  case rel => exact ⟨k + 1, true, rfl, by go_num, hlt, Lib.hid (by rw [hst.out, ← hb.out, Hz.out]; rfl)⟩
                  case measure => simp [intOf]; omega
                · have e0 : ((r[k].toNat : Int) == 0) = false := by rw [beq_eq_false_iff_ne]; exact fun e => hz (UInt8.toNat_inj.1 (by have : (0 : UInt8).toNat = 0 := rfl; omega))
                  by_cases h7 : 127 < r[k].toNat
                  · have e7 : decide ((127 : Int) < (r[k].toNat : Int)) = true := by simp; omega
                    have Hz := Lib.hid (show badC r[k] = true by simp [badC, h7])
                    clear hz h7
                    go_wp2
                    go_round
                    case rel => exact ⟨k + 1, true, rfl, by go_num, hlt, Lib.hid (by rw [hst.out, ← hb.out, Hz.out]; rfl)⟩
                    case measure => simp [intOf]; omega
                  · have e7 : decide ((127 : Int) < (r[k].toNat : Int)) = false := by simp; omega
                    have Hz := Lib.hid (show badC r[k] = false by simp [badC, h7, hz])
                    clear hz h7
                    go_wp2
                    go_round
                    case rel => exact ⟨k + 1, false, rfl, by go_num, hlt, Lib.hid (by rw [hst.out, ← hb.out, Hz.out]; rfl)⟩
                    case measure => simp [intOf]; omega
            · have hbl := hb.out
              rw [List.take_of_length_le (by have : r.data.toList.length = r.size := by simp
                                             omega)] at hbl
              have Hbl := Lib.hid (show b = badL r.data.toList from hbl)
              clear hb hbl
              go_wp2
              go_loop [8, 11] (fun p i => ∃ (j m : Nat), p = .int .i64 m ∧ i = .int .i64 j ∧ j ≤ t.size ∧ m ≤ 76 ∧ Hid (narrow m (t.data.toList.drop j) = true)) (fun _ i => t.size - (intOf i).toNat)
              case atStart => exact ⟨0, 0, rfl, rfl, Nat.zero_le _, by omega, Hnt⟩
              case round =>
                obtain ⟨j, m, rfl, rfl, hj, hm, hn⟩ := hrel
                by_cases hjt : j < t.size
                · have hd : t.data.toList.drop j = t[j] :: t.data.toList.drop (j + 1) := by
                    rw [List.drop_eq_getElem_cons (by simpa using hjt)]; rfl
                  have hn1 := hn.out
                  rw [hd, narrow] at hn1
                  by_cases h10 : t[j] = 10
                  · have e10 : ((t[j].toNat : Int) == 10) = true := by rw [h10]; rfl
                    rw [if_pos h10] at hn1
                    have HN := Lib.hid hn1
                    clear h10 hn1 hd hn
                    go_wp2
                    go_round
                    case rel => exact ⟨j + 1, 0, rfl, by go_num, hjt, by omega, HN⟩
                    case measure => simp [intOf]; omega
                  · have e10 : ((t[j].toNat : Int) == 10) = false := by rw [beq_eq_false_iff_ne]; exact fun e => h10 (UInt8.toNat_inj.1 (by have : (10 : UInt8).toNat = 10 := rfl; omega))
                    rw [if_neg h10] at hn1
                    have hm2 : m + 1 ≤ 76 := by
                      rcases Nat.lt_or_ge 76 (m + 1) with h | h
                      · rw [if_neg (by omega)] at hn1; cases hn1
                      · exact h
                    rw [if_pos hm2] at hn1
                    have e76 : decide ((76 : Int) < (m : Int) + 1) = false := by simp; omega
                    have HN := Lib.hid hn1
                    clear h10 hn1 hd hn
                    go_wp2
                    go_round
                    case rel => exact ⟨j + 1, m + 1, by go_num, by go_num, hjt, hm2, HN⟩
                    case measure => simp [intOf]; omega
                · clear hn
                  obtain ⟨q9, hq9⟩ := Hte.out
                  have h8 : t.data.toList.length = t.size := by simp
                  have h1t : 1 ≤ t.size := by rw [← h8, hq9]; simp
                  have h1i : (1 : Int) ≤ (t.size : Int) := by omega
                  have hidx : ((t.size : Int) - 1).toNat = t.size - 1 := by omega
                  have hlast : (t.extract (t.size - 1) t.size).toList = [10] := by
                    rw [ByteArray.toList_eq]
                    simp only [ByteArray.data_extract, Array.toList_extract, List.extract_eq_take_drop]
                    rw [← h8, hq9]; simp
                  have HH2 := Lib.hid (show Holds v l w3 ∧ l.length ≤ 1000000 from HH.out)
                  clear hq9 h8 HH
                  cases b with
                  | true =>
                    go_wp2
                    go_ret
                    exact ⟨rfl, HB3.out⟩
                  | false =>
                    obtain ⟨rfl, rfl⟩ := hG.out Hbl.out.symm
                    go_wp2_with fail
                    refine (Texts_any v _ [r] [r] _ (HH2.out.1.below ((Below.refl _ _).alloc (Nat.le_refl _) _)) (holds_lit [r] 9 w3) (by simp) (by simp)).mono ?_
                    rintro e w7 ⟨rfl, hB7⟩
                    rw [show decide ([r] = [r]) = true from decide_eq_true rfl]
                    have HB7 := Lib.hid (HB3.out.trans (((Below.refl _ w3).alloc (Nat.le_refl _) _).trans (hB7.mono (by simp)) |>.mono HB3.out.size))
                    clear hB7
                    go_wp2
                    go_ret
                    exact ⟨rfl, HB7.out⟩

end Go.Proofs.YtbocflglknkiaaaGreatDoor
