/- code's unbase and Unbase: the text of some base64, or that there is none. -/
import Derived.Test.YtbocflglknkiaaaGreatDoorUngroup
import Derived.Test.YtbocflglknkiaaaGreatDoorBaseFn
import Derived.Test.YtbocflglknkiaaaGreatDoorTold
namespace Go.Proofs.YtbocflglknkiaaaGreatDoor
open Go.RowKit Go.Shelf
attribute [local go_sem] Oper.semAt_some

theorem toList_inj {a b : ByteArray} (h : a.toList = b.toList) : a = b := by
  rw [ByteArray.toList_eq, ByteArray.toList_eq] at h
  cases a; cases b
  simp at h
  rw [h]
/-- A text's base64. -/
def baseB (s : ByteArray) : ByteArray := ⟨(outL s (List.range (nPieces s 3))).toArray⟩
theorem base_any (s : ByteArray) (hs : s.size ≤ 100000000) (w : World) :
    Calls Tryz.prog 16 #[.string s] w fun e w' => e = .returned (.string (baseB s)) ∧ Below w.heap.size w w' := base_walk s hs w

def decL (s : ByteArray) (pre : List Nat) : Option (List UInt8) := pre.foldl (fun acc i => acc.bind fun l => (ungroupL (piece s 4 i).data.toList).map (l ++ ·)) (some [])
theorem decL_snoc (s : ByteArray) (pre : List Nat) (x : Nat) : decL s (pre ++ [x]) = (decL s pre).bind fun l => (ungroupL (piece s 4 x).data.toList).map (l ++ ·) := by simp [decL]
theorem decL_append_none (s : ByteArray) (pre r : List Nat) (h : decL s pre = none) : decL s (pre ++ r) = none := by
  unfold decL at h ⊢
  rw [List.foldl_append, h]
  induction r with
  | nil => rfl
  | cons a r ih => simpa using ih
theorem outB_length (n k : Nat) : (outB n k).length = k := by simp [outB]
theorem trimRightB_le (l : List UInt8) (c : UInt8) : (Lib.trimRightB l c).length ≤ l.length := by
  unfold Lib.trimRightB
  rw [List.length_reverse]
  exact Nat.le_trans (List.dropWhile_sublist _).length_le (by simp)
theorem piece_size (s : ByteArray) (k i : Nat) : (piece s k i).size ≤ k := by
  simp [piece]; omega
theorem ungroupL_le {l r : List UInt8} (h : ungroupL l = some r) (hl : l.length ≤ 4) : r.length ≤ 3 := by
  unfold ungroupL at h
  obtain ⟨n, _, rfl⟩ := Option.map_eq_some_iff.1 h
  have := trimRightB_le l 61
  rw [outB_length]; omega
theorem decL_length (s : ByteArray) (pre : List Nat) : ∀ l, decL s pre = some l → l.length ≤ 3 * pre.length := by
  suffices h : ∀ (pre : List Nat) (acc l : List UInt8), pre.foldl (fun acc i => acc.bind fun l => (ungroupL (piece s 4 i).data.toList).map (l ++ ·)) (some acc) = some l → l.length ≤ acc.length + 3 * pre.length by
    intro l hl
    simpa using h pre [] l hl
  intro pre
  induction pre with
  | nil => intro acc l h; simp at h; subst h; simp
  | cons a r ih =>
    intro acc l h
    rw [List.foldl_cons] at h
    cases hu : ungroupL (piece s 4 a).data.toList with
    | none =>
      rw [hu] at h
      have : ∀ r : List Nat, r.foldl (fun acc i => acc.bind fun l => (ungroupL (piece s 4 i).data.toList).map (l ++ ·)) none = none := fun r => by induction r with | nil => rfl | cons a r ih => simpa using ih
      simp [this] at h
    | some u =>
      rw [hu] at h
      have := ih (acc ++ u) l (by simpa using h)
      have h3 := ungroupL_le hu (by have := piece_size s 4 a; simpa using this)
      simp only [List.length_append, List.length_cons] at this ⊢
      omega

/-- The text of some base64. -/
def unbaseL (s : ByteArray) : Option (List UInt8) := (decL s (List.range (nPieces s 4))).bind fun l => if baseB ⟨l.toArray⟩ = s then some l else none
def UnbPost (s : ByteArray) (w : World) (e : Ending) (w' : World) : Prop := ∃ at_ : Int, e = .returned (ungroupV at_ (unbaseL s)) ∧ Below w.heap.size w w'
def DecI (s : ByteArray) (b : Nat) (pre : List Nat) (W : World) : Prop := ∃ l, decL s pre = some l ∧ IsB b b (Lib.byteCells l) W
def DecX (s : ByteArray) (r2 r3 : Nat) (pre : List Nat) (W : World) : Prop := decL s pre = none ∧ W.cell? ⟨r2, 0, none⟩ = some (.string ⟨#[]⟩) ∧ ∃ at_ : Int, W.cell? ⟨r3, 0, none⟩ = some (.iface 144 (.agg #[.int .i64 at_]))

set_option maxHeartbeats 2000000 in
set_option maxRecDepth 100000 in
theorem unbase_any (s : ByteArray) (hs : s.size ≤ 90000000) (w : World) :
    Calls Tryz.prog 70 #[.string s] w (UnbPost s w) := by
  have hbd := build_coder
  refine (callsIn_wide (n := 9)).1 ?_
  refine callsIn_of_wp_marks Tryz.func70 rfl trivial ?_ rfl
  simp only [Tryz.ntmps70, List.size_toArray, List.length_cons, List.length_nil, Nat.reduceAdd, Nat.reduceSub, Array.replicate_succ, Array.replicate_zero, List.push_toArray, List.append_toArray, List.nil_append, List.cons_append]
  gi_wp2_with fail
  refine ⟨trivial, ?_⟩
  refine (callsIn_wide.2 (all_any _)).mono ?_
  rintro e w1 ⟨rfl, hB1⟩
  gi_wp2_with fail
  clear hbd
  obtain ⟨W1, hW1⟩ : ∃ W1, W1 = ((w1.alloc (.cells (tabTo 64) 62)).alloc (.cells #[.pointer (some ⟨w1.heap.size, 0, none⟩)] 57)).alloc (.cells #[.pointer none, .slice none 0 0] 46) := ⟨_, rfl⟩
  rw [← hW1]
  have hz0 : w.heap.size + 1 < w1.heap.size := by have := hB1.size; simp at this; omega
  have hB1w : Below w.heap.size w w1 := (((Below.refl _ _).alloc (Nat.le_refl _) _).alloc (by simp) _).trans (hB1.mono (by simp; omega))
  have hr2 : w1.heap[w.heap.size]? = some (.cells #[.string ⟨#[]⟩] 9 (0, 0)) := (hB1.block _ (by simp; omega)).trans (heap_alloc2_old _ _ _)
  have hr3 : w1.heap[w.heap.size + 1]? = some (.cells #[.nilIface] 39 (0, 0)) := (hB1.block _ (by simp)).trans (heap_alloc2_new _ _ _)
  have hk1 : ∀ k, k < w1.heap.size → W1.heap[k]? = w1.heap[k]? := fun k hk => by
    rw [hW1, heap_alloc_old _ _ _ (by simp; omega), heap_alloc_old _ _ _ (by simp; omega), heap_alloc_old _ _ _ hk]
  have hz1 : W1.heap.size = w1.heap.size + 3 := by rw [hW1]; simp
  have hBw : Below w.heap.size w W1 := by rw [hW1]; exact ((hB1w.alloc hB1w.size _).alloc (by simp; omega) _).alloc (by simp; omega) _
  have hcod : W1.heap[w1.heap.size]? = some (.cells (tabTo 64) 62 (0, 0)) := by
    rw [hW1, heap_alloc_old _ _ _ (by simp; omega), heap_alloc_old _ _ _ (by simp)]; exact heap_alloc_new _ _
  have hbox : W1.heap[w1.heap.size + 1]? = some (.cells #[.pointer (some ⟨w1.heap.size, 0, none⟩)] 57 (0, 0)) := by
    rw [hW1, heap_alloc_old _ _ _ (by simp)]; exact heap_alloc2_new _ _ _
  have hbld : IsB (w1.heap.size + 2) (w1.heap.size + 2) (Lib.byteCells []) W1 := by
    have := IsB.fresh ((w1.alloc (.cells (tabTo 64) 62)).alloc (.cells #[.pointer (some ⟨w1.heap.size, 0, none⟩)] 57))
    rw [World.size_alloc, World.size_alloc] at this
    rw [hW1]; exact this
  have hz2 : w1.heap.size + 2 < W1.heap.size := by omega
  have hr2' := (hk1 _ (by omega)).trans hr2
  have hr3' := (hk1 _ (by omega)).trans hr3
  clear hW1 hz1 hB1 hB1w hr2 hr3 hk1
  refine ⟨trivial, ?_⟩
  refine (callsIn_wide.2 (groups_any _ _ _)).mono ?_
  rintro e w2 ⟨rfl, rfl⟩
  gi_wp2_with fail
  refine wpIn_rangeFunc_ownF rfl (by omega) (gf := 47) (lb := #[.pointer (some ⟨W1.heap.size, 0, none⟩), .pointer (some ⟨W1.heap.size + 1, 0, none⟩)]) rfl trivial (enters_of Tryz.func47 (by kernel_rfl) rfl)
    (groups1_stops 8 4 (by omega) (by omega) W1.heap.size (W1.heap.size + 1) s (by omega) _ (by simp) (by simp)) KeepB.trans (keepB_b (by simp; omega)) (Below.refl _ _) (fun _ => rfl)
    (fun pre W => ((W.heap[w1.heap.size]? = some (.cells (tabTo 64) 62 (0, 0)) ∧ W.heap[w1.heap.size + 1]? = some (.cells #[.pointer (some ⟨w1.heap.size, 0, none⟩)] 57 (0, 0)) ∧ W.heap[W1.heap.size]? = some (.cells #[.string s] 9 (0, 0)) ∧ W.heap[W1.heap.size + 1]? = some (.cells #[.int .i64 4] 3 (0, 0)) ∧
      W.heap[w.heap.size]? = some (.cells #[.string ⟨#[]⟩] 9 (0, 0)) ∧ W.heap[w.heap.size + 1]? = some (.cells #[.nilIface] 39 (0, 0))) ∧ DecI s (w1.heap.size + 2) pre W) ∧ Below w.heap.size w W)
    (fun c pre W => (c = .ret ∧ DecX s w.heap.size (w.heap.size + 1) pre W) ∧ Below w.heap.size w W)
    (OwnFrom.and (Own.from (own_of_ck fun pre A B hk h => ⟨⟨hk _ _ _ _ h.1.1, hk _ _ _ _ h.1.2.1, hk _ _ _ _ h.1.2.2.1, hk _ _ _ _ h.1.2.2.2.1, hk _ _ _ _ h.1.2.2.2.2.1, hk _ _ _ _ h.1.2.2.2.2.2⟩, by obtain ⟨l, h1, h2⟩ := h.2; exact ⟨l, h1, h2.ck hk⟩⟩) _) (ownFrom_below (Nat.le_refl _) (by simp; omega)))
    (fun c => OwnFrom.and (Own.from (own_of_ck fun pre A B hk h => ⟨h.1, h.2.1, hk.cell h.2.2.1, by obtain ⟨at_, h3⟩ := h.2.2.2; exact ⟨at_, hk.cell h3⟩⟩) _) (ownFrom_below (Nat.le_refl _) (by simp; omega)))
    ⟨⟨⟨(heap_alloc_old _ _ _ (by simp; omega)).trans ((heap_alloc_old _ _ _ (by omega)).trans hcod), (heap_alloc_old _ _ _ (by simp; omega)).trans ((heap_alloc_old _ _ _ (by omega)).trans hbox), heap_alloc2_old _ _ _, heap_alloc2_new _ _ _,
      (heap_alloc_old _ _ _ (by simp; omega)).trans ((heap_alloc_old _ _ _ (by omega)).trans hr2'), (heap_alloc_old _ _ _ (by simp; omega)).trans ((heap_alloc_old _ _ _ (by omega)).trans hr3')⟩,
      ⟨[], rfl, hbld.ck (CK.of_below (((Below.refl _ _).alloc (Nat.le_refl _) _).alloc (by simp) _) (Nat.le_refl _))⟩⟩, (hBw.alloc (by omega) _).alloc (by simp; omega) _⟩
    (fun x => { tmps := #[.string s, undef, .pointer (some ⟨w.heap.size, 0, none⟩), .pointer (some ⟨w.heap.size + 1, 0, none⟩), .pointer (some ⟨w1.heap.size + 1, 0, none⟩), .pointer (some ⟨w1.heap.size + 1 + 1, 0, none⟩), .int .i64 ((x * 4 : Nat) : Int), .string (piece s 4 x), undef, undef, undef, .agg (tabTo 64), .agg (tabTo 64), .pointer (some ⟨w1.heap.size, 0, none⟩), .string s, .func (.func 47) #[] #[.pointer (some ⟨W1.heap.size, 0, none⟩), .pointer (some ⟨W1.heap.size + 1, 0, none⟩)], .int .i64 ((x * 4 : Nat) : Int), .string (piece s 4 x), undef, undef, undef, undef, undef, undef, undef, undef, undef, undef, undef, undef, undef, undef, undef, undef, undef, undef, undef, undef, undef, undef], defers := [] }) ?assign ?body ?done ?stop
  case assign =>
    intro l x W K hK
    simp only [pieceV]
    gi_wp2
    exact hK
  case body =>
    rintro l pre x W ⟨⟨⟨h1, h2, h4, h5, h6, h7⟩, ⟨acc, hacc, h3⟩⟩, hB⟩ hlen
    have hc := Lib.cell_of_heap h2 0
    simp only [List.getElem?_toArray, List.getElem?_cons_zero] at hc
    have hal := decL_length s pre acc hacc
    have hnp : nPieces s 4 ≤ s.size := by unfold nPieces; omega
    have hps := piece_size s 4 x
    have Hacc := Lib.hid hacc
    clear hacc
    gi_wp2_with fail
    refine ⟨trivial, ?_⟩
    refine (CallsIn.inRound l (callsIn_wide.2 (ungroup_any w1.heap.size (piece s 4 x) _ _ hps (fun j hj => by rw [Lib.cell_of_heap h1, tabTo_get _ _ hj, if_pos hj])))).mono ?_
    rintro e W2 ⟨rfl, hB2⟩
    have k1 : CK W W2 := CK.of_below hB2 (Nat.le_refl _)
    have h3' := h3.ck k1
    have hdec := decL_snoc s pre x
    rw [Hacc.out] at hdec
    have Hdec := Lib.hid hdec
    clear hdec
    have hsz2 := hB2.size
    cases hu : ungroupL (piece s 4 x).data.toList with
    | some r =>
      have hrl := ungroupL_le hu (by simpa using hps)
      have Hu := Lib.hid hu
      clear hu
      dsimp only [ungroupV]
      gi_wp2_with fail
      refine ⟨trivial, ?_⟩
      refine (CallsIn.inRound l (callsIn_wide.2 (wString _ _ _ _ _ h3' (by rw [Lib.byteCells_length]; simp [ByteArray.size]; omega) (by have := h3'.lt; omega)))).mono ?_
      rintro e W3 ⟨rfl, h3n, hB3, hO3⟩
      gi_wp2
      refine ⟨(keepsOthers_below hB2).trans (OthB.keepsOthers hO3 hB3 h3'.block), ?_, ⟨⟨hO3.cells (k1 _ _ _ _ h1) (by omega) (by decide), hO3.cells (k1 _ _ _ _ h2) (by omega) (by decide), hO3.cells (k1 _ _ _ _ h4) (by omega) (by decide), hO3.cells (k1 _ _ _ _ h5) (by omega) (by decide), hO3.cells (k1 _ _ _ _ h6) (by omega) (by decide), hO3.cells (k1 _ _ _ _ h7) (by omega) (by decide)⟩, ⟨acc ++ r, ?_, ?_⟩⟩, ?_⟩
      · intro k hk
        have hk' : k = W1.heap.size ∨ k = W1.heap.size + 1 := by simpa using hk
        rcases hk' with rfl | rfl
        · rw [hO3.cells (k1 _ _ _ _ h4) (by omega) (by decide), h4]
        · rw [hO3.cells (k1 _ _ _ _ h5) (by omega) (by decide), h5]
      · rw [Hdec.out, Hu.out]; rfl
      · rw [Lib.byteCells_append]; exact h3n
      · exact hB.trans ((hB2.mono hB.size).trans (hB3.mono (by omega)))
    | none =>
      have hn : decL s (pre ++ [x]) = none := by rw [Hdec.out, hu]; rfl
      have Hn := Lib.hid hn
      clear hu hn
      have c6 := Lib.cell_of_heap (k1 _ _ _ _ h6) 0
      have c7 := Lib.cell_of_heap (k1 _ _ _ _ h7) 0
      have f6 := Lib.frozen_of_heap (k1 _ _ _ _ h6) 0
      have f7 := Lib.frozen_of_heap (k1 _ _ _ _ h7) 0
      simp only [List.getElem?_toArray, List.getElem?_cons_zero] at c6 c7
      dsimp only [ungroupV]
      gi_wp2
      refine ⟨((keepsOthers_below hB2).trans (KeepsOthers.setCell _ _ _)).trans (KeepsOthers.setCell _ _ _), ⟨rfl, Hn.out, ?_, ⟨(x : Int) * 4, ?_⟩⟩, ?_⟩
      · rw [World.cell?_setCell_other _ _ _ _ (by simp), World.cell?_setCell_same _ _ _ c6]
      · rw [World.cell?_setCell_same _ _ _ (u := .nilIface) (by rw [World.cell?_setCell_other _ _ _ _ (by simp)]; exact c7)]
      · exact ((hB.trans (hB2.mono hB.size)).setCell (p := ⟨w.heap.size, 0, none⟩) (Nat.le_refl _) _).setCell (p := ⟨w.heap.size + 1, 0, none⟩) (by simp) _
  case done =>
    rintro D ys W hD rfl ⟨⟨⟨_, _, _, _, h6, h7⟩, ⟨acc, hacc, h3⟩⟩, hB⟩ hK
    gi_wp2_with fail
    refine ⟨trivial, ?_⟩
    refine (callsIn_wide.2 (bString _ _ _ _ h3 (by have := h3.lt; omega))).mono ?_
    rintro e W2 ⟨rfl, _, hB2, hO2⟩
    have hK2 : W2.heap[D]? = some (.deferred (some [])) := hO2 D _ hK (fun e => by cases e; obtain ⟨c, t, fz, hb⟩ := h3.block; rw [hb] at hK; cases hK) (fun c fz e => by cases e)
    have hal := decL_length s _ acc hacc
    have hnp : 3 * nPieces s 4 ≤ s.size + 3 := by unfold nPieces; omega
    rw [List.length_range] at hal
    gi_wp2_with fail
    refine ⟨trivial, ?_⟩
    refine (callsIn_wide.2 (base_any _ (by simp [ByteArray.size]; omega) _)).mono ?_
    rintro e W3 ⟨rfl, hB3⟩
    have hK3 := (hB3.block D (Array.getElem?_eq_some_iff.1 hK2).1).trans hK2
    have e6 := (hB3.block _ (Array.getElem?_eq_some_iff.1 (hO2.cells h6 (by omega) (by decide))).1).trans (hO2.cells h6 (by omega) (by decide))
    have e7 := (hB3.block _ (Array.getElem?_eq_some_iff.1 (hO2.cells h7 (by omega) (by decide))).1).trans (hO2.cells h7 (by omega) (by decide))
    have c6 := Lib.cell_of_heap e6 0
    have c7 := Lib.cell_of_heap e7 0
    have f6 := Lib.frozen_of_heap e6 0
    have f7 := Lib.frozen_of_heap e7 0
    simp only [List.getElem?_toArray, List.getElem?_cons_zero] at c6 c7
    clear h6 h7 e6 e7 hnp hal
    have hBW3 : Below w.heap.size w W3 := hB.trans ((hB2.mono (by omega)).trans (hB3.mono (by have := hB2.size; have := hB.size; omega)))
    have hK4 : ∀ (a b : Addr) (x y : Value), a.block = w.heap.size → b.block = w.heap.size + 1 → ((W3.setCell a x).setCell b y).heap[D]? = some (.deferred (some [])) := fun a b x y ha hb => by
      rw [heap_setCell_other _ _ _ _ (by rw [hb]; simp at hD; omega), heap_setCell_other _ _ _ _ (by rw [ha]; simp at hD; omega)]; exact hK3
    by_cases hbs : baseB ⟨acc.toArray⟩ = s
    · have hu : unbaseL s = some acc := by unfold unbaseL; rw [hacc]; simp [hbs]
      have Hu := Lib.hid hu
      clear hu hacc
      gi_wp2
      refine ⟨by simp, .inl ⟨_, _, rfl, run_takeDeferred (w := (W3.setCell ⟨w.heap.size, 0, none⟩ (.string ⟨acc.toArray⟩)).setCell ⟨w.heap.size + 1, 0, none⟩ .nilIface) (hK4 _ _ _ _ rfl rfl), ?_⟩⟩
      have g2 : ((W3.setCell ⟨w.heap.size, 0, none⟩ (.string ⟨acc.toArray⟩)).setCell ⟨w.heap.size + 1, 0, none⟩ .nilIface).cell? ⟨w.heap.size, 0, none⟩ = some (.string ⟨acc.toArray⟩) := by rw [World.cell?_setCell_other _ _ _ _ (by simp), World.cell?_setCell_same _ _ _ c6]
      have g3 : ((W3.setCell ⟨w.heap.size, 0, none⟩ (.string ⟨acc.toArray⟩)).setCell ⟨w.heap.size + 1, 0, none⟩ .nilIface).cell? ⟨w.heap.size + 1, 0, none⟩ = some .nilIface := by rw [World.cell?_setCell_same _ _ _ (u := .nilIface) (by rw [World.cell?_setCell_other _ _ _ _ (by simp)]; exact c7)]
      have g2' := cell_kept g2 (grownBy_putObj' _ D (.deferred none)) (fun r e => by cases e; exact ⟨_, hK4 _ _ _ _ rfl rfl, rfl⟩)
      have g3' := cell_kept g3 (grownBy_putObj' _ D (.deferred none)) (fun r e => by cases e; exact ⟨_, hK4 _ _ _ _ rfl rfl, rfl⟩)
      refine ⟨.tuple #[.string ⟨acc.toArray⟩, .nilIface], by simp [results, Tryz.results70, go_sem, g2', g3'], 0, by rw [Hu.out]; rfl, ?_⟩
      exact ((hBW3.setCell (p := ⟨w.heap.size, 0, none⟩) (Nat.le_refl _) _).setCell (p := ⟨w.heap.size + 1, 0, none⟩) (by simp) _).trans (belowK_b (w := w) (Nat.le_refl _) _ D _ _ (by simp at hD; omega) (hK4 _ _ _ _ rfl rfl) rfl rfl)
    · have hu : unbaseL s = none := by unfold unbaseL; rw [hacc]; simp [hbs]
      have Hu := Lib.hid hu
      have hne : ((baseB ⟨acc.toArray⟩).toList == s.toList) = false := by
        rw [beq_eq_false_iff_ne]
        intro h
        exact hbs (toList_inj h)
      clear hu hacc hbs
      gi_wp2
      refine ⟨by simp, .inl ⟨_, _, rfl, run_takeDeferred (w := (W3.setCell ⟨w.heap.size, 0, none⟩ (.string ⟨#[]⟩)).setCell ⟨w.heap.size + 1, 0, none⟩ (.iface 144 (.agg #[.int .i64 s.size]))) (hK4 _ _ _ _ rfl rfl), ?_⟩⟩
      have g2 : ((W3.setCell ⟨w.heap.size, 0, none⟩ (.string ⟨#[]⟩)).setCell ⟨w.heap.size + 1, 0, none⟩ (.iface 144 (.agg #[.int .i64 s.size]))).cell? ⟨w.heap.size, 0, none⟩ = some (.string ⟨#[]⟩) := by rw [World.cell?_setCell_other _ _ _ _ (by simp), World.cell?_setCell_same _ _ _ c6]
      have g3 : ((W3.setCell ⟨w.heap.size, 0, none⟩ (.string ⟨#[]⟩)).setCell ⟨w.heap.size + 1, 0, none⟩ (.iface 144 (.agg #[.int .i64 s.size]))).cell? ⟨w.heap.size + 1, 0, none⟩ = some (.iface 144 (.agg #[.int .i64 s.size])) := by rw [World.cell?_setCell_same _ _ _ (u := .nilIface) (by rw [World.cell?_setCell_other _ _ _ _ (by simp)]; exact c7)]
      have g2' := cell_kept g2 (grownBy_putObj' _ D (.deferred none)) (fun r e => by cases e; exact ⟨_, hK4 _ _ _ _ rfl rfl, rfl⟩)
      have g3' := cell_kept g3 (grownBy_putObj' _ D (.deferred none)) (fun r e => by cases e; exact ⟨_, hK4 _ _ _ _ rfl rfl, rfl⟩)
      refine ⟨.tuple #[.string ⟨#[]⟩, (.iface 144 (.agg #[.int .i64 s.size]))], by simp [results, Tryz.results70, go_sem, g2', g3'], s.size, by rw [Hu.out]; rfl, ?_⟩
      exact ((hBW3.setCell (p := ⟨w.heap.size, 0, none⟩) (Nat.le_refl _) _).setCell (p := ⟨w.heap.size + 1, 0, none⟩) (by simp) _).trans (belowK_b (w := w) (Nat.le_refl _) _ D _ _ (by simp at hD; omega) (hK4 _ _ _ _ rfl rfl) rfl rfl)
  case stop =>
    rintro D c pre W hD hpre ⟨⟨rfl, hn, h2, ⟨at_, h3⟩⟩, hB⟩ hK
    have hu : unbaseL s = none := by
      obtain ⟨r, hr⟩ := hpre
      unfold unbaseL
      rw [← hr, decL_append_none _ _ _ hn]; rfl
    have g2 := cell_kept h2 (grownBy_putObj' W D (.deferred none)) (fun r e => by cases e; exact ⟨_, hK, rfl⟩)
    have g3 := cell_kept h3 (grownBy_putObj' W D (.deferred none)) (fun r e => by cases e; exact ⟨_, hK, rfl⟩)
    have Hu := Lib.hid hu
    clear hu hn h2 h3
    gi_wp2
    refine ⟨by simp, .inl ⟨_, _, rfl, run_takeDeferred hK, ?_⟩⟩
    refine ⟨.tuple #[.string ⟨#[]⟩, .iface 144 (.agg #[.int .i64 at_])], ?_, at_, by rw [Hu.out]; rfl, ?_⟩
    · simp [results, Tryz.results70, go_sem, g2, g3]
    · exact hB.trans (belowK_b (w := w) (Nat.le_refl _) W D _ _ (by simp at hD; omega) hK rfl rfl)

def UnbV : Option (List UInt8) → Value
  | some l => .tuple #[.string ⟨l.toArray⟩, .int .i64 0]
  | none => .tuple #[.string ⟨#[]⟩, .int .i64 50]
set_option maxHeartbeats 1000000 in
theorem Unbase_any (G : Nat → Addr) (s : ByteArray) (hs : s.size ≤ 90000000) (w : World) (hE : Env G w) :
    Calls Tryz.prog 45 #[.string s] w fun e w' => e = .returned (UnbV (unbaseL s)) ∧ Below w.heap.size w w' := by
  go_enter Tryz.func45, Tryz.ntmps45
  go_wp2_with fail
  refine (unbase_any s hs w).mono ?_
  rintro e w1 ⟨at_, rfl, hB1⟩
  have hE1 := hE.below hB1
  cases hu : unbaseL s with
  | some l =>
    have Hu := Lib.hid hu
    clear hu
    dsimp only [ungroupV]
    go_wp2_with fail
    refine (code_told_nil G _ hE1).mono ?_
    rintro e w2 ⟨rfl, hB2⟩
    go_wp2
    go_ret2
    exact ⟨by rw [Hu.out]; rfl, hB1.trans (hB2.mono hB1.size)⟩
  | none =>
    have Hu := Lib.hid hu
    clear hu
    dsimp only [ungroupV]
    go_wp2_with fail
    refine (code_told_one G _ _ hE1).mono ?_
    rintro e w2 ⟨rfl, hB2⟩
    go_wp2
    go_ret2
    exact ⟨by rw [Hu.out]; rfl, hB1.trans (hB2.mono hB1.size)⟩
end Go.Proofs.YtbocflglknkiaaaGreatDoor
