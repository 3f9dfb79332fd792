/- code.all: the sixty-four signs of base64. -/
import Derived.Test.YtbocflglknkiaaaGreatDoorIter
import Derived.Laws.Rows
import Derived.Deep.MidRow
namespace Go.Proofs.YtbocflglknkiaaaGreatDoor
open Go.RowKit Go.Shelf

/-- Sign i of base64. -/
def sg (i : Nat) : Nat := if i < 26 then 65 + i else if i < 52 then 71 + i else if i < 62 then i - 4 else if i = 62 then 43 else 47
def tabTo (i : Nat) : Array Value := ((List.range 64).map fun j => Value.int .u8 ((if j < i then sg j else 0 : Nat) : Int)).toArray
theorem tabTo_size (i : Nat) : (tabTo i).size = 64 := by simp [tabTo]
theorem tabTo_get (i j : Nat) (h : j < 64) : (tabTo i)[j]? = some (.int .u8 ((if j < i then sg j else 0 : Nat) : Int)) := by simp [tabTo, h]
theorem tabTo_set (i : Nat) (h : i < 64) : (tabTo i).setIfInBounds i (.int .u8 ((sg i : Nat) : Int)) = tabTo (i + 1) := by
  apply Array.ext_getElem?
  intro j
  rw [Array.getElem?_setIfInBounds]
  by_cases hj : i = j
  · subst hj
    rw [if_pos rfl, tabTo_get _ _ h]
    simp [tabTo_size, h]
  · rw [if_neg hj]
    by_cases h64 : j < 64
    · rw [tabTo_get _ _ h64, tabTo_get _ _ h64]
      by_cases hlt : j < i
      · rw [if_pos hlt, if_pos (by omega)]
      · rw [if_neg hlt, if_neg (by omega)]
    · rw [Array.getElem?_eq_none (by simp [tabTo_size]; omega), Array.getElem?_eq_none (by simp [tabTo_size]; omega)]
theorem tabTo_zero : tabTo 0 = Array.replicate 64 (.int .u8 0) := by rfl
theorem infoSigns : (Tryz.prog.info? 59).map (·.size) = some 64 := by kernel_rfl

theorem below_setCells {B b : Nat} {w : World} (hb : B ≤ b) : ∀ (vs : List Value) (o : Nat) {W : World}, Below B w W → Below B w (W.setCells b o vs)
  | [], _, _, h => h
  | _ :: r, o, _, h => below_setCells hb r (o + 1) (h.setCell (p := ⟨b, o, none⟩) hb _)
theorem results_cell_range {P : Program} {fn : Func} {p : Tmp} {ty : TypeId} (h : fn.results = #[.cell p ty]) (tmps : Array Value) (w : World) (g : Nat) (cs : List Value) (d : TypeDesc)
    (hp : tmps.getD p undef = .pointer (some ⟨g, 0, none⟩)) (hg : w.rangeAt g 0 cs)
    (hu : P.underlying ty = some d) (hd : d.isRow = true) (hi : (P.info? ty).map (·.size) = some cs.length) :
    (results fn tmps).run P w = .ok (.agg cs.toArray) w := by
  have hp' : tmps[p]?.getD undef = .pointer (some ⟨g, 0, none⟩) := by simpa using hp
  simp [results, h, hp', asAddr, run_loadVar_mid w g 0 ty cs d hg hu hd hi]
def offs : Nat → Nat
  | 0 => 0 | 1 => 26 | 2 => 52 | 3 => 62 | 4 => 63 | _ => 64
set_option maxHeartbeats 4000000 in
set_option maxRecDepth 100000 in
theorem all_any (w : World) : Calls Tryz.prog 27 #[] w fun e w' => e = .returned (.agg (tabTo 64)) ∧ Below w.heap.size w w' := by
  have i0 : ∀ w, (Instr.index 88 (.agg #[.int .u8 65, .int .u8 90, .int .u8 97, .int .u8 122, .int .u8 48, .int .u8 57, .int .u8 43, .int .u8 43, .int .u8 47, .int .u8 47]) (.int .i64 0)).run Tryz.prog w = .ok (.agg #[.int .u8 65, .int .u8 90]) w := fun _ => by kernel_rfl
  have i1 : ∀ w, (Instr.index 88 (.agg #[.int .u8 65, .int .u8 90, .int .u8 97, .int .u8 122, .int .u8 48, .int .u8 57, .int .u8 43, .int .u8 43, .int .u8 47, .int .u8 47]) (.int .i64 1)).run Tryz.prog w = .ok (.agg #[.int .u8 97, .int .u8 122]) w := fun _ => by kernel_rfl
  have i2 : ∀ w, (Instr.index 88 (.agg #[.int .u8 65, .int .u8 90, .int .u8 97, .int .u8 122, .int .u8 48, .int .u8 57, .int .u8 43, .int .u8 43, .int .u8 47, .int .u8 47]) (.int .i64 2)).run Tryz.prog w = .ok (.agg #[.int .u8 48, .int .u8 57]) w := fun _ => by kernel_rfl
  have i3 : ∀ w, (Instr.index 88 (.agg #[.int .u8 65, .int .u8 90, .int .u8 97, .int .u8 122, .int .u8 48, .int .u8 57, .int .u8 43, .int .u8 43, .int .u8 47, .int .u8 47]) (.int .i64 3)).run Tryz.prog w = .ok (.agg #[.int .u8 43, .int .u8 43]) w := fun _ => by kernel_rfl
  have i4 : ∀ w, (Instr.index 88 (.agg #[.int .u8 65, .int .u8 90, .int .u8 97, .int .u8 122, .int .u8 48, .int .u8 57, .int .u8 43, .int .u8 43, .int .u8 47, .int .u8 47]) (.int .i64 4)).run Tryz.prog w = .ok (.agg #[.int .u8 47, .int .u8 47]) w := fun _ => by kernel_rfl
  go_enter Tryz.func27, Tryz.ntmps27
  go_wp2
  go_loopw [2, 12] (fun i k wr => ∃ m : Nat, m ≤ 5 ∧ k = .int .i64 m ∧ i = .int .i64 (offs m : Nat) ∧ Below w.heap.size w wr ∧ w.heap.size + 1 < wr.heap.size ∧ wr.heap[w.heap.size + 1]? = some (.cells (tabTo (offs m)) 59 (0, 0)) ∧ wr.heap[w.heap.size]? = some (.cells (tabTo 0) 59 (0, 0)))
    (fun _ k _ => 5 - (intOf k).toNat)
  case atStart =>
    exact ⟨0, by omega, rfl, rfl, ((Below.refl _ _).alloc (Nat.le_refl _) _).alloc (by simp) _, by simp, heap_alloc2_new _ _ _, heap_alloc2_old _ _ _⟩
  case round =>
    obtain ⟨m, hm, rfl, rfl, hB, hz, h1, h0⟩ := hrel
    have hms : m = 0 ∨ m = 1 ∨ m = 2 ∨ m = 3 ∨ m = 4 ∨ m = 5 := by omega
    clear hm
    obtain ⟨wo, rfl⟩ : ∃ wo : World, wo = wr := ⟨_, rfl⟩
    rcases hms with rfl | rfl | rfl | rfl | rfl | rfl
    · simp only [offs] at h1 ⊢
      go_wp2
      go_loopw [2, 5] (fun i c wi => ∃ p q : Nat, 0 ≤ p ∧ p ≤ 26 ∧ q + 0 = p + 65 ∧ i = .int .i64 p ∧ c = .int .u8 q ∧ Below w.heap.size w wi ∧ wo.heap.size < wi.heap.size ∧ wi.heap[w.heap.size + 1]? = some (.cells (tabTo p) 59 (0, 0)) ∧ wi.heap[w.heap.size]? = some (.cells (tabTo 0) 59 (0, 0)) ∧ wi.cell? ⟨wo.heap.size, 1, none⟩ = some (.int .u8 90))
        (fun i _ _ => 64 - (intOf i).toNat)
      case atStart => exact ⟨0, 65, by omega, by omega, by omega, rfl, rfl, hB.alloc hB.size _, by simp, (Lib.alloc_old _ _ _ hz).trans h1, (Lib.alloc_old _ _ _ (by omega)).trans h0, by simp⟩
      case round =>
        obtain ⟨p, q, hp0, hp1, hq, rfl, rfl, hBi, hzi, h1i, h0i, hc⟩ := hrel
        clear hB h1 h0
        by_cases hlt : p < 26
        · have hcell : wr.cell? ⟨w.heap.size + 1, p, none⟩ = some (.int .u8 ((if p < p then sg p else 0 : Nat) : Int)) := by rw [Lib.cell_of_heap h1i]; exact tabTo_get p p (by omega)
          have hfr : wr.frozen? ⟨w.heap.size + 1, p, none⟩ = false := Lib.frozen_of_heap h1i p
          have hq1 : (q : Int) ≤ 90 := by omega
          have Hq := Lib.hid hq
          clear hq
          go_wp2
          go_roundw
          case rel =>
            have hsg : q = sg p := by have := Hq.out; unfold sg; (repeat' split) <;> omega
            refine ⟨p + 1, q + 1, by omega, by omega, by have := Hq.out; omega, by go_num, by go_num, hBi.setCell (p := ⟨w.heap.size + 1, p, none⟩) (by simp) _, by simpa using hzi, ?_, ?_, ?_⟩
            · rw [heap_setCell_same _ _ _ _ _ _ h1i, hsg, tabTo_set _ (by omega)]
            · rw [heap_setCell_other _ _ _ _ (by simp)]; exact h0i
            · rw [World.cell?_setCell_other _ _ _ _ (by intro e; injection e; omega)]; exact hc
          case measure => simp [intOf]; omega
        · obtain rfl : p = 26 := by omega
          obtain rfl : q = 90 + 1 := by omega
          go_wp2
          go_roundw
          case rel => exact ⟨0 + 1, by omega, by go_num, rfl, hBi, by omega, h1i, h0i⟩
          case measure => simp [intOf]
    · simp only [offs] at h1 ⊢
      go_wp2
      go_loopw [2, 5] (fun i c wi => ∃ p q : Nat, 26 ≤ p ∧ p ≤ 52 ∧ q + 26 = p + 97 ∧ i = .int .i64 p ∧ c = .int .u8 q ∧ Below w.heap.size w wi ∧ wo.heap.size < wi.heap.size ∧ wi.heap[w.heap.size + 1]? = some (.cells (tabTo p) 59 (0, 0)) ∧ wi.heap[w.heap.size]? = some (.cells (tabTo 0) 59 (0, 0)) ∧ wi.cell? ⟨wo.heap.size, 1, none⟩ = some (.int .u8 122))
        (fun i _ _ => 64 - (intOf i).toNat)
      case atStart => exact ⟨26, 97, by omega, by omega, by omega, rfl, rfl, hB.alloc hB.size _, by simp, (Lib.alloc_old _ _ _ hz).trans h1, (Lib.alloc_old _ _ _ (by omega)).trans h0, by simp⟩
      case round =>
        obtain ⟨p, q, hp0, hp1, hq, rfl, rfl, hBi, hzi, h1i, h0i, hc⟩ := hrel
        clear hB h1 h0
        by_cases hlt : p < 52
        · have hcell : wr.cell? ⟨w.heap.size + 1, p, none⟩ = some (.int .u8 ((if p < p then sg p else 0 : Nat) : Int)) := by rw [Lib.cell_of_heap h1i]; exact tabTo_get p p (by omega)
          have hfr : wr.frozen? ⟨w.heap.size + 1, p, none⟩ = false := Lib.frozen_of_heap h1i p
          have hq1 : (q : Int) ≤ 122 := by omega
          have Hq := Lib.hid hq
          clear hq
          go_wp2
          go_roundw
          case rel =>
            have hsg : q = sg p := by have := Hq.out; unfold sg; (repeat' split) <;> omega
            refine ⟨p + 1, q + 1, by omega, by omega, by have := Hq.out; omega, by go_num, by go_num, hBi.setCell (p := ⟨w.heap.size + 1, p, none⟩) (by simp) _, by simpa using hzi, ?_, ?_, ?_⟩
            · rw [heap_setCell_same _ _ _ _ _ _ h1i, hsg, tabTo_set _ (by omega)]
            · rw [heap_setCell_other _ _ _ _ (by simp)]; exact h0i
            · rw [World.cell?_setCell_other _ _ _ _ (by intro e; injection e; omega)]; exact hc
          case measure => simp [intOf]; omega
        · obtain rfl : p = 52 := by omega
          obtain rfl : q = 122 + 1 := by omega
          go_wp2
          go_roundw
          case rel => exact ⟨1 + 1, by omega, by go_num, rfl, hBi, by omega, h1i, h0i⟩
          case measure => simp [intOf]
    · simp only [offs] at h1 ⊢
      go_wp2
      go_loopw [2, 5] (fun i c wi => ∃ p q : Nat, 52 ≤ p ∧ p ≤ 62 ∧ q + 52 = p + 48 ∧ i = .int .i64 p ∧ c = .int .u8 q ∧ Below w.heap.size w wi ∧ wo.heap.size < wi.heap.size ∧ wi.heap[w.heap.size + 1]? = some (.cells (tabTo p) 59 (0, 0)) ∧ wi.heap[w.heap.size]? = some (.cells (tabTo 0) 59 (0, 0)) ∧ wi.cell? ⟨wo.heap.size, 1, none⟩ = some (.int .u8 57))
        (fun i _ _ => 64 - (intOf i).toNat)
      case atStart => exact ⟨52, 48, by omega, by omega, by omega, rfl, rfl, hB.alloc hB.size _, by simp, (Lib.alloc_old _ _ _ hz).trans h1, (Lib.alloc_old _ _ _ (by omega)).trans h0, by simp⟩
      case round =>
        obtain ⟨p, q, hp0, hp1, hq, rfl, rfl, hBi, hzi, h1i, h0i, hc⟩ := hrel
        clear hB h1 h0
        by_cases hlt : p < 62
        · have hcell : wr.cell? ⟨w.heap.size + 1, p, none⟩ = some (.int .u8 ((if p < p then sg p else 0 : Nat) : Int)) := by rw [Lib.cell_of_heap h1i]; exact tabTo_get p p (by omega)
          have hfr : wr.frozen? ⟨w.heap.size + 1, p, none⟩ = false := Lib.frozen_of_heap h1i p
          have hq1 : (q : Int) ≤ 57 := by omega
          have Hq := Lib.hid hq
          clear hq
          go_wp2
          go_roundw
          case rel =>
            have hsg : q = sg p := by have := Hq.out; unfold sg; (repeat' split) <;> omega
            refine ⟨p + 1, q + 1, by omega, by omega, by have := Hq.out; omega, by go_num, by go_num, hBi.setCell (p := ⟨w.heap.size + 1, p, none⟩) (by simp) _, by simpa using hzi, ?_, ?_, ?_⟩
            · rw [heap_setCell_same _ _ _ _ _ _ h1i, hsg, tabTo_set _ (by omega)]
            · rw [heap_setCell_other _ _ _ _ (by simp)]; exact h0i
            · rw [World.cell?_setCell_other _ _ _ _ (by intro e; injection e; omega)]; exact hc
          case measure => simp [intOf]; omega
        · obtain rfl : p = 62 := by omega
          obtain rfl : q = 57 + 1 := by omega
          go_wp2
          go_roundw
          case rel => exact ⟨2 + 1, by omega, by go_num, rfl, hBi, by omega, h1i, h0i⟩
          case measure => simp [intOf]
    · simp only [offs] at h1 ⊢
      go_wp2
      go_loopw [2, 5] (fun i c wi => ∃ p q : Nat, 62 ≤ p ∧ p ≤ 63 ∧ q + 62 = p + 43 ∧ i = .int .i64 p ∧ c = .int .u8 q ∧ Below w.heap.size w wi ∧ wo.heap.size < wi.heap.size ∧ wi.heap[w.heap.size + 1]? = some (.cells (tabTo p) 59 (0, 0)) ∧ wi.heap[w.heap.size]? = some (.cells (tabTo 0) 59 (0, 0)) ∧ wi.cell? ⟨wo.heap.size, 1, none⟩ = some (.int .u8 43))
        (fun i _ _ => 64 - (intOf i).toNat)
      case atStart => exact ⟨62, 43, by omega, by omega, by omega, rfl, rfl, hB.alloc hB.size _, by simp, (Lib.alloc_old _ _ _ hz).trans h1, (Lib.alloc_old _ _ _ (by omega)).trans h0, by simp⟩
      case round =>
        obtain ⟨p, q, hp0, hp1, hq, rfl, rfl, hBi, hzi, h1i, h0i, hc⟩ := hrel
        clear hB h1 h0
        by_cases hlt : p < 63
        · have hcell : wr.cell? ⟨w.heap.size + 1, p, none⟩ = some (.int .u8 ((if p < p then sg p else 0 : Nat) : Int)) := by rw [Lib.cell_of_heap h1i]; exact tabTo_get p p (by omega)
          have hfr : wr.frozen? ⟨w.heap.size + 1, p, none⟩ = false := Lib.frozen_of_heap h1i p
          have hq1 : (q : Int) ≤ 43 := by omega
          have Hq := Lib.hid hq
          clear hq
          go_wp2
          go_roundw
          case rel =>
            have hsg : q = sg p := by have := Hq.out; unfold sg; (repeat' split) <;> omega
            refine ⟨p + 1, q + 1, by omega, by omega, by have := Hq.out; omega, by go_num, by go_num, hBi.setCell (p := ⟨w.heap.size + 1, p, none⟩) (by simp) _, by simpa using hzi, ?_, ?_, ?_⟩
            · rw [heap_setCell_same _ _ _ _ _ _ h1i, hsg, tabTo_set _ (by omega)]
            · rw [heap_setCell_other _ _ _ _ (by simp)]; exact h0i
            · rw [World.cell?_setCell_other _ _ _ _ (by intro e; injection e; omega)]; exact hc
          case measure => simp [intOf]; omega
        · obtain rfl : p = 63 := by omega
          obtain rfl : q = 43 + 1 := by omega
          go_wp2
          go_roundw
          case rel => exact ⟨3 + 1, by omega, by go_num, rfl, hBi, by omega, h1i, h0i⟩
          case measure => simp [intOf]
    · simp only [offs] at h1 ⊢
      go_wp2
      go_loopw [2, 5] (fun i c wi => ∃ p q : Nat, 63 ≤ p ∧ p ≤ 64 ∧ q + 63 = p + 47 ∧ i = .int .i64 p ∧ c = .int .u8 q ∧ Below w.heap.size w wi ∧ wo.heap.size < wi.heap.size ∧ wi.heap[w.heap.size + 1]? = some (.cells (tabTo p) 59 (0, 0)) ∧ wi.heap[w.heap.size]? = some (.cells (tabTo 0) 59 (0, 0)) ∧ wi.cell? ⟨wo.heap.size, 1, none⟩ = some (.int .u8 47))
        (fun i _ _ => 64 - (intOf i).toNat)
      case atStart => exact ⟨63, 47, by omega, by omega, by omega, rfl, rfl, hB.alloc hB.size _, by simp, (Lib.alloc_old _ _ _ hz).trans h1, (Lib.alloc_old _ _ _ (by omega)).trans h0, by simp⟩
      case round =>
        obtain ⟨p, q, hp0, hp1, hq, rfl, rfl, hBi, hzi, h1i, h0i, hc⟩ := hrel
        clear hB h1 h0
        by_cases hlt : p < 64
        · have hcell : wr.cell? ⟨w.heap.size + 1, p, none⟩ = some (.int .u8 ((if p < p then sg p else 0 : Nat) : Int)) := by rw [Lib.cell_of_heap h1i]; exact tabTo_get p p (by omega)
          have hfr : wr.frozen? ⟨w.heap.size + 1, p, none⟩ = false := Lib.frozen_of_heap h1i p
          have hq1 : (q : Int) ≤ 47 := by omega
          have Hq := Lib.hid hq
          clear hq
          go_wp2
          go_roundw
          case rel =>
            have hsg : q = sg p := by have := Hq.out; unfold sg; (repeat' split) <;> omega
            refine ⟨p + 1, q + 1, by omega, by omega, by have := Hq.out; omega, by go_num, by go_num, hBi.setCell (p := ⟨w.heap.size + 1, p, none⟩) (by simp) _, by simpa using hzi, ?_, ?_, ?_⟩
            · rw [heap_setCell_same _ _ _ _ _ _ h1i, hsg, tabTo_set _ (by omega)]
            · rw [heap_setCell_other _ _ _ _ (by simp)]; exact h0i
            · rw [World.cell?_setCell_other _ _ _ _ (by intro e; injection e; omega)]; exact hc
          case measure => simp [intOf]; omega
        · obtain rfl : p = 64 := by omega
          obtain rfl : q = 47 + 1 := by omega
          go_wp2
          go_roundw
          case rel => exact ⟨4 + 1, by omega, by go_num, rfl, hBi, by omega, h1i, h0i⟩
          case measure => simp [intOf]
    · simp only [offs] at h1
      have ht : wo.there w.heap.size 0 (tabTo 64).size := fun j hj => by
        rw [tabTo_size] at hj
        rw [Lib.cell_of_heap h0, Lib.frozen_of_heap h0, Nat.zero_add, tabTo_get _ _ hj]
        exact ⟨rfl, rfl⟩
      have hi : (Tryz.prog.info? 59).map (·.size) = some (tabTo 64).size := by rw [tabTo_size]; exact infoSigns
      have hone : (tabTo 64).all (·.oneCell') = true := by simp [tabTo, Value.oneCell']
      have hr : (wo.setCells w.heap.size 0 (tabTo 64).toList).rangeAt w.heap.size 0 (tabTo 64).toList := World.rangeAt_setCells_same _ _ _ _ (by simpa using ht)
      go_wp2_with (first | (refine wpList_load_row rfl 59 _ rfl (w.heap.size + 1) rfl 59 (tabTo 64) (0, 0) _ h1 Tryz.underlying59 rfl hi ?_) | (refine wpList_store_mid rfl 59 _ _ rfl w.heap.size 0 (tabTo 64) rfl rfl ht hi hone ?_))
      exact bodyPost_ret (v := .agg (tabTo 64)) (by rw [results_cell_range rfl _ _ w.heap.size (tabTo 64).toList _ rfl hr Tryz.underlying59 rfl (by simpa using hi)]) rfl ⟨rfl, below_setCells (Nat.le_refl _) _ _ hB⟩
end Go.Proofs.YtbocflglknkiaaaGreatDoor
