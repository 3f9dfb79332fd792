/- latinerlaw15.FoldReturns: true. -/
import Derived.Test.YtbocflglknkiaaaGreatDoorLawNotes
namespace Go.Proofs.YtbocflglknkiaaaGreatDoor
open Go.RowKit Go.Shelf

theorem unfold_returns {s t : ByteArray} (ht : t.data.toList = addR false s.data.toList) (h1 : s.size ≤ 8000) (h2 : t.size ≤ 8000) : unfoldL t = unfoldL s := by
  rw [unfoldL_of h1, unfoldL_of h2, ht, lines_returns]
theorem addR_append_any : ∀ (a : List UInt8) (p : Bool) (b : List UInt8), addR p (a ++ b) = addR p a ++ addR (endsR p a) b
  | [], _, _ => rfl
  | c :: a, p, b => by
    rw [List.cons_append, addR, addR, addR_append_any a _ b, List.append_assoc]
    rfl
theorem endsR_snoc : ∀ (a : List UInt8) (p : Bool) (c : UInt8), endsR p (a ++ [c]) = (c == 13)
  | [], _, _ => rfl
  | d :: a, p, c => by rw [List.cons_append, endsR, endsR_snoc a]
theorem take_snocB (s : ByteArray) (k : Nat) (h : k < s.size) : s.data.toList.take (k + 1) = s.data.toList.take k ++ [s[k]] := by
  rw [List.take_succ_eq_append_getElem (by simpa using h)]; rfl
/-- What the first k signs come to. -/
def upR (s : ByteArray) (k : Nat) : List UInt8 := addR false (s.data.toList.take k)
theorem upR_zero (s : ByteArray) : upR s 0 = [] := rfl
theorem upR_plain (s : ByteArray) (k : Nat) (h : k < s.size) (h10 : s[k] ≠ 10) : upR s (k + 1) = upR s k ++ [s[k]] := by
  rw [upR, take_snocB s k h, addR_append_any, addR, if_neg (fun e => h10 e.1)]; rfl
theorem upR_first (s : ByteArray) (h : 0 < s.size) (h10 : s[0] = 10) : upR s 1 = [13, 10] := by
  rw [upR, take_snocB s 0 h, List.take_zero, List.nil_append, addR, h10]; rfl
theorem upR_ended (s : ByteArray) (k : Nat) (h : k + 1 < s.size) (h10 : s[k + 1] = 10) : upR s (k + 2) = upR s (k + 1) ++ (if s[k] = 13 then [10] else [13, 10]) := by
  rw [upR, take_snocB s (k + 1) h, addR_append_any, take_snocB s k (by omega), endsR_snoc, addR, h10, ← take_snocB s k (by omega)]
  by_cases h13 : s[k] = 13
  · rw [if_neg (by simp [h13]), if_pos h13]; rfl
  · rw [if_pos ⟨rfl, by simpa using h13⟩, if_neg h13]; rfl
theorem upR_length (s : ByteArray) (k : Nat) (h : k ≤ s.size) : (upR s k).length ≤ 2 * k := by
  have := addR_length (s.data.toList.take k) false
  rw [List.length_take] at this
  have h2 : s.data.toList.length = s.size := by simp
  unfold upR; omega
theorem byteCells_one (c : UInt8) : Lib.byteCells [c] = [Value.int .u8 (c.toNat : Int)] := rfl

set_option maxHeartbeats 3000000 in
set_option maxRecDepth 100000 in
theorem FoldReturns_any (G : Nat → Addr) (a : ByteArray) (ha : a.size ≤ 140737488351232) (w : World) (hE : Env G w) : Calls Tryz.prog 6 #[.string a] w fun e w' => e = .returned (.bool true) ∧ Below w.heap.size w w' := by
  have hmin : (min (a.size : Int) 3000).toNat = min a.size 3000 := by omega
  obtain ⟨i0, hi0, hz0, hz1', hz2⟩ := info_parts infoByte
  have HI0 := Lib.hid hi0
  have HZ0 := Lib.hid hz0
  have HZ1 := Lib.hid hz1'
  have HZ2 := Lib.hid hz2
  clear hi0 hz0 hz1' hz2
  have HE := Lib.hid hE
  have Hsh := Lib.hid (shown_any G w hE)
  clear hE
  go_enter Tryz.func6, Tryz.ntmps6
  go_wp2_with fail
  refine Hsh.out.mono ?_
  rintro e w1 ⟨rfl, hB1⟩
  have HE1 := Lib.hid (HE.out.below hB1)
  have HB1 := Lib.hid hB1
  clear hB1 HE Hsh
  go_wp2_with fail
  obtain ⟨s, hr⟩ : ∃ r, r = a.extract 0 (min a.size 3000) := ⟨_, rfl⟩
  have hs3 : s.size ≤ 3000 := by rw [hr, ByteArray.size_extract]; omega
  rw [← hr]
  clear hr hmin ha
  cases hu : unfoldL s with
  | bad g =>
    have hg : g = 1 ∨ g = 0 := by
      rcases unfoldL_cases s with h | h | ⟨l, h⟩
      · rw [h] at hu; exact .inr (UF.bad.inj hu).symm
      · rw [h] at hu; exact .inl (UF.bad.inj hu).symm
      · rw [h] at hu; cases hu
    have hne : (errnoF g != 0) = true := by rcases hg with rfl | rfl <;> decide
    have Hu := Lib.hid hu
    clear hu hg
    refine (Unfold_bad G s (by omega) w1 HE1.out Hu.out).mono ?_
    rintro e w2 ⟨rfl, hB2⟩
    have HB2 := Lib.hid (HB1.out.trans (hB2.mono HB1.out.size))
    clear hB2
    generalize errnoF g = eg at *
    go_wp2
    go_ret
    exact ⟨rfl, HB2.out⟩
  | ok l =>
    have hl8 := unfoldL_len hu
    have Hu := Lib.hid hu
    clear hu
    refine (Unfold_ok G s (by omega) w1 HE1.out Hu.out).mono ?_
    rintro e w2 ⟨v, rfl, hT, hB2⟩
    have HE2 := Lib.hid (HE1.out.below hB2)
    have HB2 := Lib.hid (HB1.out.trans (hB2.mono HB1.out.size))
    have HT2 := Lib.hid hT
    clear hB2 HE1 HB1 hT
    go_wp2_with fail
    go_loopw [6, 7] (fun o i wi => ∃ k : Nat, i = .int .i64 k ∧ k ≤ s.size ∧ Hid (wi.ownsRow w2.heap.size 5 1 o (upR s k).length (Lib.byteCells (upR s k))) ∧ Hid (Below w2.heap.size w2 wi) ∧ w2.heap.size ≤ wi.heap.size)
      (fun _ i _ => s.size - (intOf i).toNat)
    case atStart => exact ⟨0, rfl, Nat.zero_le _, Lib.hid (World.ownsRow_nil _ _ _ _), Lib.hid (Below.refl _ _), Nat.le_refl _⟩
    case round =>
      obtain ⟨k, rfl, hk, hown, hBi, hzi⟩ := hrel
      by_cases hlt : k < s.size
      · have hul := upR_length s k hk
        by_cases h10 : s[k] ≠ 10
        · have h10n : ((s[k].toNat : Int) == 10) = false := by rw [beq_eq_false_iff_ne]; exact fun e => h10 (UInt8.toNat_inj.1 (by have : (10 : UInt8).toNat = 10 := rfl; omega))
          have HU := Lib.hid (upR_plain s k hlt h10)
          clear h10
          go_wp2_with (at_builtin; refine wpList_append_own _ rfl _ _ 36 rfl w2.heap.size 5 i0 (.int .u8 0) 1 1 Tryz.underlying36 HI0.out HZ0.out HZ1.out HZ2.out rfl (by decide) _ _ _ rfl (hown.out.alloc _) ⟨wr.heap.size, 0, none⟩ 1 1 [.int .u8 (s[k].toNat : Int)] rfl rfl ?c1 ?c2 ?c3 ?c4 ?c5 ?_)
          case c1 => exact cell_one_new _ _ _
          case c2 => intro u hu; simp at hu; subst hu; rfl
          case c3 => unfold maxLen; (try simp only [List.length_append, List.length_cons, List.length_nil]); omega
          case c4 => (try simp only [List.length_append, List.length_cons, List.length_nil]); omega
          case c5 => (try simp); omega
          intro v1 W1 hown1 hgrow1 _
          have hz1 : w2.heap.size ≤ W1.heap.size := by have := hgrow1.size; (try simp at this); omega
          have HO1 : Hid (W1.ownsRow w2.heap.size 5 1 v1 (upR s k ++ [s[k]]).length (Lib.byteCells (upR s k ++ [s[k]]))) := Lib.hid (by rw [Lib.byteCells_append, byteCells_one]; have ho := hown1; (try simp only [List.length_append, List.length_cons, List.length_nil, Nat.zero_add] at ho); (try simp only [List.length_append, List.length_cons, List.length_nil, Nat.zero_add]); exact ho)
          have HG1 : Hid (Below w2.heap.size w2 W1) := Lib.hid ((hBi.out.alloc (by omega) _).grown hgrow1 (by (try simp); omega) (fun k hk => (hown.out.lt k hk).1))
          clear hown1 hgrow1
          go_wp2
          go_roundw
          case rel => exact ⟨k + 1, by go_num, hlt, Lib.hid (by rw [HU.out]; exact HO1.out), HG1, hz1⟩
          case measure => simp [intOf]; omega

        · replace h10 := Decidable.not_not.1 h10
          have h10y : ((s[k].toNat : Int) == 10) = true := by rw [h10]; rfl
          rcases Nat.eq_zero_or_pos k with rfl | hk0
          · have HU := Lib.hid (upR_first s hlt h10)
            have H10 := Lib.hid h10
            clear h10
            go_wp2_with (at_builtin; refine wpList_append_own _ rfl _ _ 36 rfl w2.heap.size 5 i0 (.int .u8 0) 1 1 Tryz.underlying36 HI0.out HZ0.out HZ1.out HZ2.out rfl (by decide) _ _ _ rfl (hown.out.alloc _) ⟨wr.heap.size, 0, none⟩ 1 1 [.int .u8 13] rfl rfl ?c1 ?c2 ?c3 ?c4 ?c5 ?_)
            case c1 => exact cell_one_new _ _ _
            case c2 => intro u hu; simp at hu; subst hu; rfl
            case c3 => unfold maxLen; (try simp only [List.length_append, List.length_cons, List.length_nil]); omega
            case c4 => (try simp only [List.length_append, List.length_cons, List.length_nil]); omega
            case c5 => (try simp); omega
            intro v1 W1 hown1 hgrow1 _
            have hz1 : w2.heap.size ≤ W1.heap.size := by have := hgrow1.size; (try simp at this); omega
            have HO1 : Hid (W1.ownsRow w2.heap.size 5 1 v1 (upR s 0 ++ [13]).length (Lib.byteCells (upR s 0 ++ [13]))) := Lib.hid (by rw [Lib.byteCells_append, byteCells_one]; have ho := hown1; (try simp only [List.length_append, List.length_cons, List.length_nil, Nat.zero_add] at ho); (try simp only [List.length_append, List.length_cons, List.length_nil, Nat.zero_add]); exact ho)
            have HG1 : Hid (Below w2.heap.size w2 W1) := Lib.hid ((hBi.out.alloc (by omega) _).grown hgrow1 (by (try simp); omega) (fun k hk => (hown.out.lt k hk).1))
            clear hown1 hgrow1
            go_wp2_with (at_builtin; refine wpList_append_own _ rfl _ _ 36 rfl w2.heap.size 5 i0 (.int .u8 0) 1 1 Tryz.underlying36 HI0.out HZ0.out HZ1.out HZ2.out rfl (by decide) _ _ _ rfl (HO1.out.alloc _) ⟨W1.heap.size, 0, none⟩ 1 1 [.int .u8 (s[0].toNat : Int)] rfl rfl ?c1 ?c2 ?c3 ?c4 ?c5 ?_)
            case c1 => exact cell_one_new _ _ _
            case c2 => intro u hu; simp at hu; subst hu; rfl
            case c3 => unfold maxLen; (try simp only [List.length_append, List.length_cons, List.length_nil]); omega
            case c4 => (try simp only [List.length_append, List.length_cons, List.length_nil]); omega
            case c5 => (try simp); omega
            intro v2 W2 hown2 hgrow2 _
            have hz2 : w2.heap.size ≤ W2.heap.size := by have := hgrow2.size; (try simp at this); omega
            have HO2 : Hid (W2.ownsRow w2.heap.size 5 1 v2 ((upR s 0 ++ ([13] : List UInt8)) ++ [s[0]]).length (Lib.byteCells ((upR s 0 ++ ([13] : List UInt8)) ++ [s[0]]))) := Lib.hid (by rw [Lib.byteCells_append, byteCells_one]; have ho := hown2; (try simp only [List.length_append, List.length_cons, List.length_nil, Nat.zero_add] at ho); (try simp only [List.length_append, List.length_cons, List.length_nil, Nat.zero_add]); exact ho)
            have HG2 : Hid (Below w2.heap.size w2 W2) := Lib.hid ((HG1.out.alloc (by omega) _).grown hgrow2 (by (try simp); omega) (fun k hk => (HO1.out.lt k hk).1))
            clear hown2 hgrow2
            go_wp2
            go_roundw
            case rel => exact ⟨0 + 1, by go_num, hlt, Lib.hid (by rw [HU.out]; have := HO2.out; rw [H10.out, upR_zero] at this; exact this), HG2, hz2⟩
            case measure => simp [intOf]; omega

          · obtain ⟨j, rfl⟩ : ∃ j, k = j + 1 := ⟨k - 1, by omega⟩
            have HU0 := upR_ended s j hlt h10
            have hj : j < s.size := by omega
            by_cases h13 : s[j] = 13
            · have e13 : ((s[j].toNat : Int) != 13) = false := by rw [h13]; rfl
              rw [if_pos h13, ← h10] at HU0
              have HU := Lib.hid HU0
              clear h10 h13 HU0
              go_wp2_with (at_builtin; refine wpList_append_own _ rfl _ _ 36 rfl w2.heap.size 5 i0 (.int .u8 0) 1 1 Tryz.underlying36 HI0.out HZ0.out HZ1.out HZ2.out rfl (by decide) _ _ _ rfl (hown.out.alloc _) ⟨wr.heap.size, 0, none⟩ 1 1 [.int .u8 (s[j + 1].toNat : Int)] rfl rfl ?c1 ?c2 ?c3 ?c4 ?c5 ?_)
              case c1 => exact cell_one_new _ _ _
              case c2 => intro u hu; simp at hu; subst hu; rfl
              case c3 => unfold maxLen; (try simp only [List.length_append, List.length_cons, List.length_nil]); omega
              case c4 => (try simp only [List.length_append, List.length_cons, List.length_nil]); omega
              case c5 => (try simp); omega
              intro v1 W1 hown1 hgrow1 _
              have hz1 : w2.heap.size ≤ W1.heap.size := by have := hgrow1.size; (try simp at this); omega
              have HO1 : Hid (W1.ownsRow w2.heap.size 5 1 v1 (upR s (j + 1) ++ [s[j + 1]]).length (Lib.byteCells (upR s (j + 1) ++ [s[j + 1]]))) := Lib.hid (by rw [Lib.byteCells_append, byteCells_one]; have ho := hown1; (try simp only [List.length_append, List.length_cons, List.length_nil, Nat.zero_add] at ho); (try simp only [List.length_append, List.length_cons, List.length_nil, Nat.zero_add]); exact ho)
              have HG1 : Hid (Below w2.heap.size w2 W1) := Lib.hid ((hBi.out.alloc (by omega) _).grown hgrow1 (by (try simp); omega) (fun k hk => (hown.out.lt k hk).1))
              clear hown1 hgrow1
              go_wp2
              go_roundw
              case rel => exact ⟨(j + 1) + 1, by go_num, hlt, Lib.hid (by rw [HU.out]; exact HO1.out), HG1, hz1⟩
              case measure => simp [intOf]; omega
          
            · have e13 : ((s[j].toNat : Int) != 13) = true := by rw [bne_iff_ne]; exact fun e => h13 (UInt8.toNat_inj.1 (by have : (13 : UInt8).toNat = 13 := rfl; omega))
              rw [if_neg h13] at HU0
              have HU := Lib.hid HU0
              have H10 := Lib.hid h10
              clear h10 h13 HU0
              go_wp2_with (at_builtin; refine wpList_append_own _ rfl _ _ 36 rfl w2.heap.size 5 i0 (.int .u8 0) 1 1 Tryz.underlying36 HI0.out HZ0.out HZ1.out HZ2.out rfl (by decide) _ _ _ rfl (hown.out.alloc _) ⟨wr.heap.size, 0, none⟩ 1 1 [.int .u8 13] rfl rfl ?c1 ?c2 ?c3 ?c4 ?c5 ?_)
              case c1 => exact cell_one_new _ _ _
              case c2 => intro u hu; simp at hu; subst hu; rfl
              case c3 => unfold maxLen; (try simp only [List.length_append, List.length_cons, List.length_nil]); omega
              case c4 => (try simp only [List.length_append, List.length_cons, List.length_nil]); omega
              case c5 => (try simp); omega
              intro v1 W1 hown1 hgrow1 _
              have hz1 : w2.heap.size ≤ W1.heap.size := by have := hgrow1.size; (try simp at this); omega
              have HO1 : Hid (W1.ownsRow w2.heap.size 5 1 v1 (upR s (j + 1) ++ [13]).length (Lib.byteCells (upR s (j + 1) ++ [13]))) := Lib.hid (by rw [Lib.byteCells_append, byteCells_one]; have ho := hown1; (try simp only [List.length_append, List.length_cons, List.length_nil, Nat.zero_add] at ho); (try simp only [List.length_append, List.length_cons, List.length_nil, Nat.zero_add]); exact ho)
              have HG1 : Hid (Below w2.heap.size w2 W1) := Lib.hid ((hBi.out.alloc (by omega) _).grown hgrow1 (by (try simp); omega) (fun k hk => (hown.out.lt k hk).1))
              clear hown1 hgrow1
              go_wp2_with (at_builtin; refine wpList_append_own _ rfl _ _ 36 rfl w2.heap.size 5 i0 (.int .u8 0) 1 1 Tryz.underlying36 HI0.out HZ0.out HZ1.out HZ2.out rfl (by decide) _ _ _ rfl (HO1.out.alloc _) ⟨W1.heap.size, 0, none⟩ 1 1 [.int .u8 (s[j + 1].toNat : Int)] rfl rfl ?c1 ?c2 ?c3 ?c4 ?c5 ?_)
              case c1 => exact cell_one_new _ _ _
              case c2 => intro u hu; simp at hu; subst hu; rfl
              case c3 => unfold maxLen; (try simp only [List.length_append, List.length_cons, List.length_nil]); omega
              case c4 => (try simp only [List.length_append, List.length_cons, List.length_nil]); omega
              case c5 => (try simp); omega
              intro v2 W2 hown2 hgrow2 _
              have hz2 : w2.heap.size ≤ W2.heap.size := by have := hgrow2.size; (try simp at this); omega
              have HO2 : Hid (W2.ownsRow w2.heap.size 5 1 v2 ((upR s (j + 1) ++ ([13] : List UInt8)) ++ [s[j + 1]]).length (Lib.byteCells ((upR s (j + 1) ++ ([13] : List UInt8)) ++ [s[j + 1]]))) := Lib.hid (by rw [Lib.byteCells_append, byteCells_one]; have ho := hown2; (try simp only [List.length_append, List.length_cons, List.length_nil, Nat.zero_add] at ho); (try simp only [List.length_append, List.length_cons, List.length_nil, Nat.zero_add]); exact ho)
              have HG2 : Hid (Below w2.heap.size w2 W2) := Lib.hid ((HG1.out.alloc (by omega) _).grown hgrow2 (by (try simp); omega) (fun k hk => (HO1.out.lt k hk).1))
              clear hown2 hgrow2
              go_wp2
              go_roundw
              case rel => exact ⟨(j + 1) + 1, by go_num, hlt, Lib.hid (by rw [HU.out]; have := HO2.out; rw [H10.out, List.append_assoc] at this; exact this), HG2, hz2⟩
              case measure => simp [intOf]; omega

      · obtain rfl : k = s.size := by omega
        have hup : upR s s.size = addR false s.data.toList := by
          rw [upR, List.take_of_length_le (by simp)]
        have hul := upR_length s s.size (Nat.le_refl _)
        have cv := conv_own wr w2.heap.size _ _ _ hown.out
        obtain ⟨t, ht⟩ : ∃ t : ByteArray, t = ⟨(upR s s.size).toArray⟩ := ⟨_, rfl⟩
        have hts : t.size ≤ 8000 := by rw [ht, size_mk]; omega
        have Hut := Lib.hid ((unfold_returns (show t.data.toList = addR false s.data.toList by rw [ht, ← hup]) (by omega) hts).trans Hu.out)
        rw [← ht] at cv
        have HBi := Lib.hid (HB2.out.trans (hBi.out.mono HB2.out.size))
        have HE3 := Lib.hid (HE2.out.below hBi.out)
        have HH1 := Lib.hid (HT2.out.below hBi.out (Nat.le_refl _)).holds
        clear hup hul ht hown hBi HT2 HE2 HB2
        go_wp2_with fail
        refine (Unfold_ok G t (by omega) wr HE3.out Hut.out).mono ?_
        rintro e w3 ⟨v2, rfl, hT3, hB3⟩
        have HH2 := Lib.hid hT3.holds
        have HH3 := Lib.hid (HH1.out.below hB3)
        have HB3 := Lib.hid (HBi.out.trans (hB3.mono HBi.out.size))
        clear hT3 hB3 HBi HE3
        go_wp2_with fail
        refine (Texts_any v v2 l l _ HH3.out HH2.out (by omega) (by omega)).mono ?_
        rintro e w7 ⟨rfl, hB7⟩
        rw [show decide (l = l) = true from decide_eq_true rfl]
        have HB7 := Lib.hid (HB3.out.trans (hB7.mono HB3.out.size))
        clear hB7
        go_wp2
        go_ret
        exact ⟨rfl, HB7.out⟩
end Go.Proofs.YtbocflglknkiaaaGreatDoor
