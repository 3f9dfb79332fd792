/- latinerlaw15.FoldNotes: true. -/
import Derived.Test.YtbocflglknkiaaaGreatDoorLawBack
namespace Go.Proofs.YtbocflglknkiaaaGreatDoor
open Go.RowKit Go.Shelf

def noteC (c : UInt8) : Bool := decide (32 ≤ c.toNat) && decide (c.toNat ≤ 126)
theorem note_parts {l : List UInt8} (h : l.all noteC = true) : hasOtherR (35 :: l) = false ∧ (10 : UInt8) ∉ (35 :: l) := by
  rw [List.all_eq_true] at h
  have h1 : ∀ c, c ∈ l → 32 ≤ c.toNat ∧ c.toNat ≤ 126 := fun c hc => by
    have := h c hc
    simpa [noteC] using this
  constructor
  · rw [hasOtherR, List.any_eq_false]
    intro c hc
    simp only [otherR, Bool.or_eq_true, beq_iff_eq, decide_eq_true_eq, not_or]
    rcases List.mem_cons.1 hc with rfl | hc
    · decide
    · have := h1 c hc; omega
  · intro hm
    rcases List.mem_cons.1 hm with h | h
    · exact absurd h (by decide)
    · exact absurd (h1 _ h).1 (by decide)
theorem lines_note {l : List UInt8} (h : l.all noteC = true) (s : List UInt8) (hs : Lib.hasPrefix s [32] = false) :
    (linesL (35 :: l ++ [10] ++ s)).map (·.filter fun x => !isNote x) = (linesL s).map (·.filter fun x => !isNote x) := by
  obtain ⟨h1, h2⟩ := note_parts h
  rw [lines_joined _ _ hs, lines_one h1 (by rw [pre_cons]; decide) h2]
  cases linesL s with
  | none => rfl
  | some b =>
    have hn : isNote (asB (35 :: l)) = true := by
      show Lib.hasPrefix (35 :: l) [35] = true
      rw [pre_cons]; rfl
    simp [hn]
def ofLines : Option (List ByteArray) → UF
  | none => .bad 1
  | some l => .ok l
theorem unfoldL_of {s : ByteArray} (h : s.size ≤ 8000) : unfoldL s = ofLines ((linesL s.data.toList).map (·.filter fun x => !isNote x)) := by
  rw [unfoldL_eq, if_neg (by omega)]
  cases linesL s.data.toList <;> rfl
theorem note_same {n s t : ByteArray} (ht : t.data.toList = 35 :: n.data.toList ++ [10] ++ s.data.toList) (hn : n.data.toList.all noteC = true) (hs : Lib.hasPrefix s.data.toList [32] = false) (h1 : s.size ≤ 8000) (h2 : t.size ≤ 8000) : unfoldL t = unfoldL s := by
  rw [unfoldL_of h1, unfoldL_of h2, ht, lines_note hn _ hs]
theorem unfold_blank {s : ByteArray} (h : s.size ≤ 8000) (hs : Lib.hasPrefix s.data.toList [32] = true) : unfoldL s = .bad 1 := by
  rw [unfoldL_of h, lines_blank hs]; rfl
def UnSome (w : World) (e : Ending) (w' : World) : Prop := ∃ (v : Value) (n : Int), e = .returned (.tuple #[v, .int .i64 n]) ∧ Below w.heap.size w w'
theorem Unfold_some (G : Nat → Addr) (t : ByteArray) (hs : t.size ≤ 1000000) (w : World) (hE : Env G w) : Calls Tryz.prog 11 #[.string t] w (UnSome w) := by
  cases hu : unfoldL t with
  | ok l =>
    refine (Unfold_ok G t hs w hE hu).mono ?_
    rintro e w' ⟨v, rfl, hT, hB⟩
    exact ⟨v, 0, rfl, hB⟩
  | bad g =>
    refine (Unfold_bad G t hs w hE hu).mono ?_
    rintro e w' ⟨rfl, hB⟩
    exact ⟨_, _, rfl, hB⟩
/-- The facts by which a walk decides a text's first sign. -/
theorem first_is {r : ByteArray} {c : UInt8} (h : Lib.hasPrefix r.data.toList [c] = true) : r.toList.isEmpty = false ∧ (r.toList == []) = false ∧ ∃ h : 0 < r.size, r[0] = c := by
  cases hl : r.data.toList with
  | nil => rw [hl] at h; cases h
  | cons d q =>
    rw [hl, pre_cons] at h
    have h0 : 0 < r.size := by
      have : r.data.toList.length = r.size := by simp
      rw [hl] at this; simp at this; omega
    refine ⟨by rw [ByteArray.toList_eq, hl]; rfl, by rw [beq_eq_false_iff_ne, ByteArray.toList_eq, hl]; simp, h0, ?_⟩
    have h1 : r.data.toList[0]? = some d := by rw [hl]; rfl
    have h2 : r.data.toList[0]? = some r[0] := by
      rw [List.getElem?_eq_getElem (by simpa using h0)]; rfl
    rw [h2] at h1
    rw [Option.some.inj h1]
    exact (beq_iff_eq.1 h).symm
theorem first_not {r : ByteArray} {c : UInt8} (h : Lib.hasPrefix r.data.toList [c] = false) : r.toList = [] ∨ (r.toList.isEmpty = false ∧ (r.toList == []) = false ∧ ∃ h : 0 < r.size, r[0] ≠ c) := by
  cases hl : r.data.toList with
  | nil => exact .inl (by rw [ByteArray.toList_eq, hl])
  | cons d q =>
    rw [hl, pre_cons] at h
    have h0 : 0 < r.size := by
      have : r.data.toList.length = r.size := by simp
      rw [hl] at this; simp at this; omega
    refine .inr ⟨by rw [ByteArray.toList_eq, hl]; rfl, by rw [beq_eq_false_iff_ne, ByteArray.toList_eq, hl]; simp, h0, ?_⟩
    have h1 : r.data.toList[0]? = some d := by rw [hl]; rfl
    have h2 : r.data.toList[0]? = some r[0] := by
      rw [List.getElem?_eq_getElem (by simpa using h0)]; rfl
    rw [h2] at h1
    rw [Option.some.inj h1]
    exact fun e => beq_eq_false_iff_ne.1 h e.symm

set_option maxHeartbeats 3000000 in
set_option maxRecDepth 100000 in
theorem FoldNotes_any (G : Nat → Addr) (a b : ByteArray) (ha : a.size ≤ 140737488351232) (hb : b.size ≤ 140737488351232) (w : World) (hE : Env G w) : Calls Tryz.prog 7 #[.string a, .string b] w fun e w' => e = .returned (.bool true) ∧ Below w.heap.size w w' := by
  have hmin : (min (a.size : Int) 3000).toNat = min a.size 3000 := by omega
  have hmin2 : (min (b.size : Int) 100).toNat = min b.size 100 := by omega
  have HE := Lib.hid hE
  have Hsh := Lib.hid (shown_any G w hE)
  clear hE
  go_enter Tryz.func7, Tryz.ntmps7
  go_wp2_with fail
  refine Hsh.out.mono ?_
  rintro e w1 ⟨rfl, hB1⟩
  have HE1 := Lib.hid (HE.out.below hB1)
  have HB1 := Lib.hid hB1
  clear hB1 HE Hsh
  go_wp2_with fail
  obtain ⟨s, hr⟩ : ∃ r, r = a.extract 0 (min a.size 3000) := ⟨_, rfl⟩
  have hs3 : s.size ≤ 3000 := by rw [hr, ByteArray.size_extract]; omega
  obtain ⟨n, hr2⟩ : ∃ r, r = b.extract 0 (min b.size 100) := ⟨_, rfl⟩
  have hn1 : n.size ≤ 100 := by rw [hr2, ByteArray.size_extract]; omega
  rw [← hr, ← hr2]
  clear hr hr2 hmin hmin2 ha hb
  go_loop [6] (fun i => ∃ k : Nat, i = .int .i64 k ∧ k ≤ n.size ∧ Hid ((n.data.toList.take k).all noteC = true)) (fun i => n.size - (intOf i).toNat)
  case atStart => exact ⟨0, rfl, Nat.zero_le _, Lib.hid rfl⟩
  case round =>
    obtain ⟨k, rfl, hk, hal⟩ := hrel
    by_cases hlt : k < n.size
    · by_cases h32 : n[k].toNat < 32
      · have e32 : decide ((n[k].toNat : Int) < 32) = true := by simp; omega
        clear h32
        go_wp2
        go_ret
        exact ⟨rfl, HB1.out⟩
      · have e32 : decide ((n[k].toNat : Int) < 32) = false := by simp; omega
        by_cases h126 : 126 < n[k].toNat
        · have e126 : decide ((126 : Int) < (n[k].toNat : Int)) = true := by simp; omega
          clear h32 h126
          go_wp2
          go_ret
          exact ⟨rfl, HB1.out⟩
        · have e126 : decide ((126 : Int) < (n[k].toNat : Int)) = false := by simp; omega
          have hst : (n.data.toList.take (k + 1)).all noteC = true := by
            have e : n.data.toList.take (k + 1) = n.data.toList.take k ++ [n[k]] := by
              rw [List.take_succ_eq_append_getElem (by simpa using hlt)]; rfl
            rw [e, List.all_append, hal.out]
            simp [noteC]; omega
          have Hst := Lib.hid hst
          clear h32 h126 hst
          go_wp2
          go_round
          case rel => exact ⟨k + 1, by go_num, hlt, Hst⟩
          case measure => simp [intOf]; omega
    · have hall := hal.out
      rw [List.take_of_length_le (by have : n.data.toList.length = n.size := by simp
                                     omega)] at hall
      obtain ⟨t, ht⟩ : ∃ t : ByteArray, t = (⟨#[35]⟩ : ByteArray) ++ n ++ (⟨#[10]⟩ : ByteArray) ++ s := ⟨_, rfl⟩
      have htl : t.data.toList = 35 :: n.data.toList ++ [10] ++ s.data.toList := by rw [ht]; simp
      have hts : t.size ≤ 8000 := by
        have h1 : t.data.toList.length = t.size := by simp
        rw [htl] at h1
        simp at h1; omega
      cases hpf : Lib.hasPrefix s.data.toList [32] with
      | true =>
        have Hu := Lib.hid (unfold_blank (show s.size ≤ 8000 by omega) hpf)
        obtain ⟨f1, f2, f3, f4⟩ := first_is hpf
        have e32 : ((s[0].toNat : Int) == 32) = true := by rw [f4]; rfl
        have Ht := Lib.hid ht
        clear hpf htl ht hall hal f4
        go_wp2_with fail
        refine (Unfold_bad G s (by omega) w1 HE1.out Hu.out).mono ?_
        rintro e w2 ⟨rfl, hB2⟩
        have HE2 := Lib.hid (HE1.out.below hB2)
        have HB2 := Lib.hid (HB1.out.trans (hB2.mono HB1.out.size))
        clear hB2 HE1 HB1
        go_wp2_with fail
        rw [← Ht.out]
        refine (Unfold_some G t (by omega) w2 HE2.out).mono ?_
        rintro e w3 ⟨v, m, rfl, hB3⟩
        have HB3 := Lib.hid (HB2.out.trans (hB3.mono HB2.out.size))
        clear hB3 HE2 HB2
        go_wp2
        go_ret
        exact ⟨rfl, HB3.out⟩
      | false =>
        have hsame := note_same htl hall hpf (by omega) hts
        have Ht := Lib.hid ht
        have hfn := first_not hpf
        clear htl ht hall hal hpf
        cases hu : unfoldL s with
        | ok l =>
          have hl8 := unfoldL_len hu
          have Hu := Lib.hid hu
          have Hu2 := Lib.hid (hsame.trans hu)
          clear hu hsame
          go_wp2_with fail
          refine (Unfold_ok G s (by omega) w1 HE1.out Hu.out).mono ?_
          rintro e w2 ⟨v, rfl, hT, hB2⟩
          have HE2 := Lib.hid (HE1.out.below hB2)
          have HB2 := Lib.hid (HB1.out.trans (hB2.mono HB1.out.size))
          have HT2 := Lib.hid hT
          clear hB2 HE1 HB1 hT
          go_wp2_with fail
          rw [← Ht.out]
          refine (Unfold_ok G t (by omega) w2 HE2.out Hu2.out).mono ?_
          rintro e w3 ⟨v2, rfl, hT3, hB3⟩
          have HH1 := Lib.hid (HT2.out.below hB3 (Nat.le_refl _)).holds
          have HH2 := Lib.hid hT3.holds
          have HB3 := Lib.hid (HB2.out.trans (hB3.mono HB2.out.size))
          clear hB3 HE2 HB2 hT3 HT2
          rcases hfn with f1 | ⟨f1, f2, f3, f4⟩
          · go_wp2_with fail
            refine (Texts_any v v2 l l _ HH1.out HH2.out (by omega) (by omega)).mono ?_
            rintro e w7 ⟨rfl, hB7⟩
            rw [show decide (l = l) = true from decide_eq_true rfl]
            have HB7 := Lib.hid (HB3.out.trans (hB7.mono HB3.out.size))
            clear hB7
            go_wp2
            go_ret
            exact ⟨rfl, HB7.out⟩
          · have e32 : ((s[0].toNat : Int) == 32) = false := by rw [beq_eq_false_iff_ne]; exact fun e => f4 (UInt8.toNat_inj.1 (by have : (32 : UInt8).toNat = 32 := rfl; omega))
            clear f4
            go_wp2_with fail
            refine (Texts_any v v2 l l _ HH1.out HH2.out (by omega) (by omega)).mono ?_
            rintro e w7 ⟨rfl, hB7⟩
            rw [show decide (l = l) = true from decide_eq_true rfl]
            have HB7 := Lib.hid (HB3.out.trans (hB7.mono HB3.out.size))
            clear hB7
            go_wp2
            go_ret
            exact ⟨rfl, HB7.out⟩
        | bad g =>
          have Hu := Lib.hid hu
          have Hu2 := Lib.hid (hsame.trans hu)
          clear hu hsame
          go_wp2_with fail
          refine (Unfold_bad G s (by omega) w1 HE1.out Hu.out).mono ?_
          rintro e w2 ⟨rfl, hB2⟩
          have HE2 := Lib.hid (HE1.out.below hB2)
          have HB2 := Lib.hid (HB1.out.trans (hB2.mono HB1.out.size))
          clear hB2 HE1 HB1
          go_wp2_with fail
          rw [← Ht.out]
          refine (Unfold_bad G t (by omega) w2 HE2.out Hu2.out).mono ?_
          rintro e w3 ⟨rfl, hB3⟩
          have HB3 := Lib.hid (HB2.out.trans (hB3.mono HB2.out.size))
          clear hB3 HE2 HB2
          generalize errnoF g = eg
          rcases hfn with f1 | ⟨f1, f2, f3, f4⟩
          · go_wp2_with fail
            refine (Texts_any _ _ [] [] _ (holds_nil w3) (holds_nil w3) (by simp) (by simp)).mono ?_
            rintro e w7 ⟨rfl, hB7⟩
            rw [show decide (([] : List ByteArray) = []) = true from decide_eq_true rfl]
            have HB7 := Lib.hid (HB3.out.trans (hB7.mono HB3.out.size))
            clear hB7
            go_wp2
            go_ret
            exact ⟨rfl, HB7.out⟩
          · have e32 : ((s[0].toNat : Int) == 32) = false := by rw [beq_eq_false_iff_ne]; exact fun e => f4 (UInt8.toNat_inj.1 (by have : (32 : UInt8).toNat = 32 := rfl; omega))
            clear f4
            go_wp2_with fail
            refine (Texts_any _ _ [] [] _ (holds_nil w3) (holds_nil w3) (by simp) (by simp)).mono ?_
            rintro e w7 ⟨rfl, hB7⟩
            rw [show decide (([] : List ByteArray) = []) = true from decide_eq_true rfl]
            have HB7 := Lib.hid (HB3.out.trans (hB7.mono HB3.out.size))
            clear hB7
            go_wp2
            go_ret
            exact ⟨rfl, HB7.out⟩
end Go.Proofs.YtbocflglknkiaaaGreatDoor
