/- latinerlaw15.FoldJoins: true. -/
import Derived.Test.YtbocflglknkiaaaGreatDoorLawNotes
import Derived.Laws.AppendOwnNone
namespace Go.Proofs.YtbocflglknkiaaaGreatDoor
open Go.RowKit Go.Shelf

theorem joins_ok {x y z : ByteArray} {r : List UInt8} (hx : x.data.toList = r ++ [10]) (hz : z.data.toList = x.data.toList ++ y.data.toList) (h1 : x.size ≤ 8000) (h2 : y.size ≤ 8000) (h3 : z.size ≤ 8000)
    {la lb : List ByteArray} (ha : unfoldL x = .ok la) (hb : unfoldL y = .ok lb) : Lib.hasPrefix y.data.toList [32] = false ∧ unfoldL z = .ok (la ++ lb) := by
  have hp : Lib.hasPrefix y.data.toList [32] = false := by
    cases h : Lib.hasPrefix y.data.toList [32] with
    | false => rfl
    | true => rw [unfold_blank h2 h] at hb; cases hb
  refine ⟨hp, ?_⟩
  rw [unfoldL_of h1] at ha
  rw [unfoldL_of h2] at hb
  rw [unfoldL_of h3, hz, hx, lines_joined _ _ hp]
  rw [hx] at ha
  cases hlx : linesL (r ++ [10]) with
  | none => rw [hlx] at ha; cases ha
  | some lx =>
    cases hly : linesL y.data.toList with
    | none => rw [hly] at hb; cases hb
    | some ly =>
      rw [hlx] at ha
      rw [hly] at hb
      obtain rfl : lx.filter (fun x => !isNote x) = la := UF.ok.inj ha
      obtain rfl : ly.filter (fun x => !isNote x) = lb := UF.ok.inj hb
      simp [ofLines]
theorem joins_bad {x y z : ByteArray} {r : List UInt8} (hx : x.data.toList = r ++ [10]) (hz : z.data.toList = x.data.toList ++ y.data.toList) (h1 : x.size ≤ 8000) (h3 : z.size ≤ 8000)
    {g : Nat} (ha : unfoldL x = .bad g) : g = 1 ∧ unfoldL z = .bad 1 := by
  rw [unfoldL_of h1] at ha
  rw [unfoldL_of h3, hz, hx]
  rw [hx] at ha
  cases hlx : linesL (r ++ [10]) with
  | none =>
    rw [hlx] at ha
    rw [lines_bad _ _ hlx]
    exact ⟨(UF.bad.inj ha).symm, rfl⟩
  | some lx => rw [hlx] at ha; cases ha

/-- append(dst, src...), both slices of texts that the call made. -/
theorem wpList_append_texts {w : World} {ops : Array Oper} {rest : List Oper} {o : Oper} {a : Act} {Q : Exit → Act → World → Prop} (hgd : o.guard = none) (s x : Operand)
    (ho : o.op = .call { callee := .builtin .append, args := #[s, x], argTypes := #[26, 26] })
    (base b2 : Nat) (v u : Value) (l m : List ByteArray) (hs : a.eval s = v) (hown : Texts base v l w) (hx : a.eval x = u) (hu : Texts b2 u m w) (hl : l.length ≤ 100000) (hm : m.length ≤ 100000) (hbase : base ≤ w.heap.size)
    (h : ∀ v' w', Texts base v' (l ++ m) w' → w.grownBy w' v.ownBlock → wpList Tryz.prog ops Q rest (a.put o.dst v') w') : wpList Tryz.prog ops Q (o :: rest) a w := by
  obtain ⟨i0, hi, hz0, hz1, hz2⟩ := info_parts infoStr
  rcases hu.2 with ⟨hn, h0⟩ | ⟨g, cap, cur, rfl, hg1, hg2, hg3, hg4, hg5, hg6⟩
  · rw [hn] at hx
    refine wpList_append_own_none hgd s x 26 ho base 9 i0 1 Tryz.underlying26 hi v l.length _ hs hown hx ?_
    have hm0 : m = [] := List.length_eq_zero_iff.1 h0
    subst hm0
    exact h v w (by rw [List.append_nil]; exact hown) (World.grownBy.refl w _)
  · refine wpList_append_own w hgd s x 26 ho base 9 i0 (.string ⟨#[]⟩) 1 16 Tryz.underlying26 hi hz0 hz1 hz2 rfl (by decide) v l.length _ hs hown ⟨g, 0, none⟩ m.length cap (m.map Value.string) hx (by simp) (fun j q hq => ?_) (fun q hq => ?_) (by unfold maxLen; omega) (by omega) hbase ?_
    · rw [show (⟨g, 0, none⟩ : Addr).add j = ⟨g, j, none⟩ by rw [Addr.add_mid, Nat.zero_add], Lib.cell_of_heap hg2, ← Array.getElem?_toList]
      rw [← hg6, List.getElem?_take] at hq
      split at hq
      · exact hq
      · cases hq
    · obtain ⟨b, _, rfl⟩ := List.mem_map.1 hq
      rfl
    · intro v' w' h1 h2 _
      refine h v' w' ?_ h2
      unfold Texts
      rw [List.map_append, List.length_append]
      exact h1

set_option maxHeartbeats 3000000 in
set_option maxRecDepth 100000 in
theorem FoldJoins_any (G : Nat → Addr) (a b : ByteArray) (ha : a.size ≤ 140737488351232) (hb : b.size ≤ 140737488351232) (w : World) (hE : Env G w) : Calls Tryz.prog 5 #[.string a, .string b] w fun e w' => e = .returned (.bool true) ∧ Below w.heap.size w w' := by
  have hmin : (min (a.size : Int) 3000).toNat = min a.size 3000 := by omega
  have hmin2 : (min (b.size : Int) 3000).toNat = min b.size 3000 := by omega
  have HE := Lib.hid hE
  have Hsh := Lib.hid (shown_any G w hE)
  clear hE
  go_enter Tryz.func5, Tryz.ntmps5
  go_wp2_with fail
  refine Hsh.out.mono ?_
  rintro e w1 ⟨rfl, hB1⟩
  have HE1 := Lib.hid (HE.out.below hB1)
  have HB1 := Lib.hid hB1
  clear hB1 HE Hsh
  go_wp2_with fail
  obtain ⟨r, hr⟩ : ∃ r, r = a.extract 0 (min a.size 3000) := ⟨_, rfl⟩
  have hr3 : r.size ≤ 3000 := by rw [hr, ByteArray.size_extract]; omega
  obtain ⟨y, hr2⟩ : ∃ r, r = b.extract 0 (min b.size 3000) := ⟨_, rfl⟩
  have hy3 : y.size ≤ 3000 := by rw [hr2, ByteArray.size_extract]; omega
  rw [← hr, ← hr2]
  clear hr hr2 hmin hmin2 ha hb
  obtain ⟨x, hx⟩ : ∃ x : ByteArray, x = r ++ ⟨#[10]⟩ := ⟨_, rfl⟩
  rw [← hx]
  have hxl : x.data.toList = r.data.toList ++ [10] := by rw [hx]; simp
  have hxs : x.size ≤ 3001 := by
    rw [hx, ByteArray.size_append]; show r.size + 1 ≤ 3001; omega
  obtain ⟨z, hz⟩ : ∃ z : ByteArray, z = x ++ y := ⟨_, rfl⟩
  have hzl : z.data.toList = x.data.toList ++ y.data.toList := by rw [hz]; simp
  have hzs : z.size ≤ 6001 := by rw [hz, ByteArray.size_append]; omega
  have Hz := Lib.hid hz
  clear hx hz
  cases hu : unfoldL x with
  | bad g =>
    obtain ⟨rfl, hub⟩ := joins_bad hxl hzl (by omega) (by omega) hu
    have Hu := Lib.hid hu
    have Hub := Lib.hid hub
    clear hu hub hxl hzl
    refine (Unfold_bad G x (by omega) w1 HE1.out Hu.out).mono ?_
    rintro e w2 ⟨rfl, hB2⟩
    rw [show errnoF 1 = 150 from rfl]
    have HE2 := Lib.hid (HE1.out.below hB2)
    have HB2 := Lib.hid (HB1.out.trans (hB2.mono HB1.out.size))
    clear hB2 HE1 HB1
    go_wp2_with fail
    refine (Unfold_some G y (by omega) w2 HE2.out).mono ?_
    rintro e w3 ⟨v, n, rfl, hB3⟩
    have HE3 := Lib.hid (HE2.out.below hB3)
    have HB3 := Lib.hid (HB2.out.trans (hB3.mono HB2.out.size))
    clear hB3 HE2 HB2
    go_wp2_with fail
    rw [← Hz.out]
    refine (Unfold_bad G z (by omega) w3 HE3.out Hub.out).mono ?_
    rintro e w4 ⟨rfl, hB4⟩
    rw [show errnoF 1 = 150 from rfl]
    have HB4 := Lib.hid (HB3.out.trans (hB4.mono HB3.out.size))
    clear hB4 HE3 HB3
    go_wp2
    go_ret
    exact ⟨rfl, HB4.out⟩
  | ok la =>
    have hla := unfoldL_len hu
    cases hu2 : unfoldL y with
    | bad g =>
      have hne : (errnoF g != 0) = true := by
        unfold errnoF
        (repeat' split) <;> decide
      have Hu := Lib.hid hu
      have Hu2 := Lib.hid hu2
      clear hu hu2 hxl hzl
      refine (Unfold_ok G x (by omega) w1 HE1.out Hu.out).mono ?_
      rintro e w2 ⟨v1, rfl, _, hB2⟩
      have HE2 := Lib.hid (HE1.out.below hB2)
      have HB2 := Lib.hid (HB1.out.trans (hB2.mono HB1.out.size))
      clear hB2 HE1 HB1
      go_wp2_with fail
      refine (Unfold_bad G y (by omega) w2 HE2.out Hu2.out).mono ?_
      rintro e w3 ⟨rfl, hB3⟩
      generalize errnoF g = eg at *
      have HE3 := Lib.hid (HE2.out.below hB3)
      have HB3 := Lib.hid (HB2.out.trans (hB3.mono HB2.out.size))
      clear hB3 HE2 HB2
      go_wp2_with fail
      rw [← Hz.out]
      refine (Unfold_some G z (by omega) w3 HE3.out).mono ?_
      rintro e w4 ⟨v, n, rfl, hB4⟩
      have HB4 := Lib.hid (HB3.out.trans (hB4.mono HB3.out.size))
      clear hB4 HE3 HB3
      go_wp2
      go_ret
      exact ⟨rfl, HB4.out⟩
    | ok lb =>
      have hlb := unfoldL_len hu2
      obtain ⟨hp, hj⟩ := joins_ok hxl hzl (by omega) (by omega) (by omega) hu hu2
      have hfn := first_not hp
      have Hu := Lib.hid hu
      have Hu2 := Lib.hid hu2
      have Hj := Lib.hid hj
      clear hu hu2 hxl hzl hp hj
      refine (Unfold_ok G x (by omega) w1 HE1.out Hu.out).mono ?_
      rintro e w2 ⟨v1, rfl, hT1, hB2⟩
      have HE2 := Lib.hid (HE1.out.below hB2)
      have HB2 := Lib.hid (HB1.out.trans (hB2.mono HB1.out.size))
      have HT1 := Lib.hid hT1
      clear hB2 HE1 HB1 hT1
      go_wp2_with fail
      refine (Unfold_ok G y (by omega) w2 HE2.out Hu2.out).mono ?_
      rintro e w3 ⟨v2, rfl, hT2, hB3⟩
      have HE3 := Lib.hid (HE2.out.below hB3)
      have HB3 := Lib.hid (HB2.out.trans (hB3.mono HB2.out.size))
      have HT1 := Lib.hid (HT1.out.below hB3 (Nat.le_refl _))
      have HT2 := Lib.hid hT2
      clear hB3 HE2 HB2 hT2
      go_wp2_with fail
      rw [← Hz.out]
      refine (Unfold_ok G z (by omega) w3 HE3.out Hj.out).mono ?_
      rintro e w4 ⟨v3, rfl, hT3, hB4⟩
      have HB4 := Lib.hid (HB3.out.trans (hB4.mono HB3.out.size))
      have HT1 := Lib.hid (HT1.out.below hB4 (Nat.le_refl _))
      have HT2 := Lib.hid (HT2.out.below hB4 (Nat.le_refl _))
      have HH3 := Lib.hid hT3.holds
      clear hT3 hB4 HE3 HB3
      rcases hfn with f1 | ⟨f1, f2, f3, f4⟩
      · skip
        go_wp2_with (at_builtin; refine wpList_append_texts rfl (.tmp 66) (.tmp 67) rfl w4.heap.size _ (.slice none 0 0) v1 [] la rfl (World.ownsRow_nil _ _ _ _) rfl HT1.out (by simp) (by omega) (Nat.le_refl _) ?_)
        intro v5 w5 hT5 hg5
        have hB5 : Below w4.heap.size w4 w5 := (Below.refl _ _).grown hg5 (Nat.le_refl _) (by simp [Value.ownBlock])
        have HT5 := Lib.hid hT5
        have HB5 := Lib.hid hB5
        have HT2 := Lib.hid (HT2.out.below hB5 (Nat.le_refl _))
        clear hT5 hg5 hB5
        go_wp2_with (at_builtin; refine wpList_append_texts rfl (.tmp 68) (.tmp 69) rfl w4.heap.size _ v5 v2 ([] ++ la) lb rfl HT5.out rfl HT2.out (by simp; omega) (by omega) HB5.out.size ?_)
        intro v6 w6 hT6 hg6
        have hB6 : Below w4.heap.size w4 w6 := HB5.out.grown hg6 HB5.out.size (fun k hk => (HT5.out.lt k hk).1)
        have HH6 := Lib.hid hT6.holds
        have HB6 := Lib.hid (HB4.out.trans (hB6.mono HB4.out.size))
        have HH3 := Lib.hid (HH3.out.below hB6)
        clear hT6 hg6 HT5 HT2 hB6
        go_wp2_with fail
        refine (Texts_any v3 v6 (la ++ lb) (la ++ lb) _ HH3.out HH6.out (by simp; omega) (by simp; omega)).mono ?_
        rintro e w7 ⟨rfl, hB7⟩
        rw [show decide (la ++ lb = la ++ lb) = true from decide_eq_true rfl]
        have HB7 := Lib.hid (HB6.out.trans (hB7.mono HB6.out.size))
        clear hB7
        go_wp2
        go_ret
        exact ⟨rfl, HB7.out⟩
      · have e32 : ((y[0].toNat : Int) == 32) = false := by rw [beq_eq_false_iff_ne]; exact fun e => f4 (UInt8.toNat_inj.1 (by have : (32 : UInt8).toNat = 32 := rfl; omega))
        clear f4
        go_wp2_with (at_builtin; refine wpList_append_texts rfl (.tmp 66) (.tmp 67) rfl w4.heap.size _ (.slice none 0 0) v1 [] la rfl (World.ownsRow_nil _ _ _ _) rfl HT1.out (by simp) (by omega) (Nat.le_refl _) ?_)
        intro v5 w5 hT5 hg5
        have hB5 : Below w4.heap.size w4 w5 := (Below.refl _ _).grown hg5 (Nat.le_refl _) (by simp [Value.ownBlock])
        have HT5 := Lib.hid hT5
        have HB5 := Lib.hid hB5
        have HT2 := Lib.hid (HT2.out.below hB5 (Nat.le_refl _))
        clear hT5 hg5 hB5
        go_wp2_with (at_builtin; refine wpList_append_texts rfl (.tmp 68) (.tmp 69) rfl w4.heap.size _ v5 v2 ([] ++ la) lb rfl HT5.out rfl HT2.out (by simp; omega) (by omega) HB5.out.size ?_)
        intro v6 w6 hT6 hg6
        have hB6 : Below w4.heap.size w4 w6 := HB5.out.grown hg6 HB5.out.size (fun k hk => (HT5.out.lt k hk).1)
        have HH6 := Lib.hid hT6.holds
        have HB6 := Lib.hid (HB4.out.trans (hB6.mono HB4.out.size))
        have HH3 := Lib.hid (HH3.out.below hB6)
        clear hT6 hg6 HT5 HT2 hB6
        go_wp2_with fail
        refine (Texts_any v3 v6 (la ++ lb) (la ++ lb) _ HH3.out HH6.out (by simp; omega) (by simp; omega)).mono ?_
        rintro e w7 ⟨rfl, hB7⟩
        rw [show decide (la ++ lb = la ++ lb) = true from decide_eq_true rfl]
        have HB7 := Lib.hid (HB6.out.trans (hB7.mono HB6.out.size))
        clear hB7
        go_wp2
        go_ret
        exact ⟨rfl, HB7.out⟩
end Go.Proofs.YtbocflglknkiaaaGreatDoor
