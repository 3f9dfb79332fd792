/- fold: the lines under way, and their small methods. -/
import Derived.Test.YtbocflglknkiaaaGreatDoorItr
import Derived.OwnWalk
import Derived.Defers
namespace Go.Proofs.YtbocflglknkiaaaGreatDoor
open Go.RowKit Go.Shelf

theorem infoStr : (Tryz.prog.info? 9).map (fun i => (i.zero, i.size, i.bytes)) = some (some (.string ⟨#[]⟩), 1, 16) := by kernel_rfl

/-- The lines under way, in block U; their row lies from block n on. -/
def LinesAt (n U : Nat) (l : List ByteArray) (op : Bool) (w : World) : Prop :=
  U < n ∧ n ≤ w.heap.size ∧ ∃ v t, w.heap[U]? = some (.cells #[v, .bool op] t (0, 0)) ∧ w.ownsRow n 9 1 v l.length (l.map Value.string)
/-- Below block n nothing has turned but block U. -/
structure Mo (n U : Nat) (A B : World) : Prop where
  os : B.os = A.os
  tape : B.tape = A.tape
  output : B.output = A.output
  size : A.heap.size ≤ B.heap.size
  block : ∀ k, k < n → k ≠ U → B.heap[k]? = A.heap[k]?
  others : KeepsOthers A B
theorem Mo.refl (n U : Nat) (A : World) : Mo n U A A := ⟨rfl, rfl, rfl, Nat.le_refl _, fun _ _ _ => rfl, .refl _⟩
theorem Mo.trans {n U : Nat} {A B C : World} (h : Mo n U A B) (k : Mo n U B C) : Mo n U A C :=
  ⟨k.os.trans h.os, k.tape.trans h.tape, k.output.trans h.output, Nat.le_trans h.size k.size, fun i hi hn => (k.block i hi hn).trans (h.block i hi hn), h.others.trans k.others⟩
theorem Mo.of_below {n U m : Nat} {A B : World} (h : Below m A B) (hm : m = A.heap.size) (hn : n ≤ m) : Mo n U A B :=
  ⟨h.os, h.tape, h.output, h.size, fun k hk _ => h.block k (Nat.lt_of_lt_of_le hk hn), keepsOthers_below (hm ▸ h)⟩
theorem Mo.setU (n U : Nat) (A : World) (o : Nat) (v : Value) : Mo n U A (A.setCell ⟨U, o, none⟩ v) :=
  ⟨rfl, rfl, rfl, by simp, fun k _ hn => heap_setCell_other _ _ _ _ hn, .setCell _ _ _⟩
theorem Mo.below {n U m : Nat} {W A B : World} (h : Mo n U A B) (hW : Below m W A) (hm : m ≤ U) (hU : U < n) : Below m W B :=
  hW.trans ⟨h.os, h.tape, h.output, h.size, fun k hk => h.block k (by omega) (by omega)⟩
theorem Mo.cell {n U : Nat} {A B : World} (h : Mo n U A B) {b o : Nat} (hb : b < n) (hU : b ≠ U) : B.cell? ⟨b, o, none⟩ = A.cell? ⟨b, o, none⟩ :=
  World.cell?_of_block (w := A) (h.block b hb hU)
theorem Mo.frozen {n U : Nat} {A B : World} (h : Mo n U A B) {b o : Nat} (hb : b < n) (hU : b ≠ U) : B.frozen? ⟨b, o, none⟩ = A.frozen? ⟨b, o, none⟩ :=
  World.frozen?_of_block (w := A) (h.block b hb hU)

theorem LinesAt.below {n U : Nat} {l : List ByteArray} {op : Bool} {w w' : World} (h : LinesAt n U l op w) {m : Nat} (hb : Below m w w') (hm : w.heap.size ≤ m) : LinesAt n U l op w' := by
  obtain ⟨h1, h2, v, t, h3, h4⟩ := h
  refine ⟨h1, Nat.le_trans h2 hb.size, v, t, (hb.block U (by omega)).trans h3, ?_⟩
  refine h4.kept (row := none) ⟨hb.os, hb.tape, hb.output, hb.size, fun k hk _ => hb.block k (by omega)⟩ (by cases v.ownBlock <;> simp)
theorem LinesAt.exc {n U : Nat} {l : List ByteArray} {op : Bool} {w w' : World} (h : LinesAt n U l op w) {bs : List Nat} (he : Exc bs w w') (hU : U ∉ bs) (hn : ∀ b, b ∈ bs → b < n) : LinesAt n U l op w' := by
  obtain ⟨h1, h2, v, t, h3, h4⟩ := h
  refine ⟨h1, Nat.le_trans h2 he.size, v, t, he.heap h3 hU, ?_⟩
  refine ⟨h4.1, ?_⟩
  rcases h4.2 with h4 | ⟨g, cap, cur, e1, e2, e3, e4⟩
  · exact .inl h4
  · exact .inr ⟨g, cap, cur, e1, e2, he.heap e3 (fun hm => by have := hn _ hm; omega), e4⟩
theorem LinesAt.setOpen {n U : Nat} {l : List ByteArray} {op : Bool} {w : World} (h : LinesAt n U l op w) (op' : Bool) : LinesAt n U l op' (w.setCell ⟨U, 1, none⟩ (.bool op')) := by
  obtain ⟨h1, h2, v, t, h3, h4⟩ := h
  refine ⟨h1, by simpa using h2, v, t, ?_, ownsRow_setCell_below h4 h1 _⟩
  rw [heap_setCell_same _ _ _ _ _ _ h3]
  rfl
/-- The same, and the row lies below block m. -/
def LinesIn (n m U : Nat) (l : List ByteArray) (op : Bool) (w : World) : Prop :=
  U < n ∧ n ≤ m ∧ m ≤ w.heap.size ∧ ∃ v t, w.heap[U]? = some (.cells #[v, .bool op] t (0, 0)) ∧ w.ownsRow n 9 1 v l.length (l.map Value.string) ∧ ∀ k, v.ownBlock = some k → k < m
theorem LinesAt.toIn {n U : Nat} {l : List ByteArray} {op : Bool} {w : World} (h : LinesAt n U l op w) : LinesIn n w.heap.size U l op w := by
  obtain ⟨h1, h2, v, t, h3, h4⟩ := h
  exact ⟨h1, h2, Nat.le_refl _, v, t, h3, h4, fun k hk => (h4.lt k hk).2⟩
theorem LinesIn.toAt {n m U : Nat} {l : List ByteArray} {op : Bool} {w : World} (h : LinesIn n m U l op w) : LinesAt n U l op w := by
  obtain ⟨h1, h2, h2', v, t, h3, h4, _⟩ := h
  exact ⟨h1, Nat.le_trans h2 h2', v, t, h3, h4⟩
theorem LinesIn.below {n m U : Nat} {l : List ByteArray} {op : Bool} {w w' : World} (h : LinesIn n m U l op w) (hb : Below w.heap.size w w') : LinesIn n m U l op w' := by
  obtain ⟨h1, h2, h2', v, t, h3, h4, h5⟩ := h
  refine ⟨h1, h2, Nat.le_trans h2' hb.size, v, t, (hb.block U (by omega)).trans h3, ?_, h5⟩
  exact h4.kept (row := none) ⟨hb.os, hb.tape, hb.output, hb.size, fun k hk _ => hb.block k (by omega)⟩ (by cases v.ownBlock <;> simp)
theorem LinesAt.cells {n U : Nat} {l : List ByteArray} {op : Bool} {w : World} (h : LinesAt n U l op w) : w.cell? ⟨U, 1, none⟩ = some (.bool op) ∧ w.frozen? ⟨U, 1, none⟩ = false ∧ w.frozen? ⟨U, 0, none⟩ = false := by
  obtain ⟨h1, h2, v, t, h3, h4⟩ := h
  exact ⟨(Lib.cell_of_heap h3 1).trans rfl, by simp [World.frozen?, h3], by simp [World.frozen?, h3]⟩

set_option maxRecDepth 100000 in
theorem begin_any (n U : Nat) (l : List ByteArray) (op : Bool) (s : ByteArray) (w : World) (m : Nat) (h : LinesIn n m U l op w) (hl : l.length ≤ 1000000) :
    Calls Tryz.prog 64 #[.pointer (some ⟨U, 0, none⟩), .string s] w fun e w' => e = .returned (.tuple #[]) ∧ LinesAt n U (l ++ [s]) op w' ∧ Mo n U w w' ∧ ∀ k, m ≤ k → k < w.heap.size → w'.heap[k]? = w.heap[k]? := by
  obtain ⟨h1, hm1, hm2, v, t, h3, h4, h5⟩ := h
  have h2 : n ≤ w.heap.size := Nat.le_trans hm1 hm2
  have hc := (Lib.cell_of_heap h3 0).trans (show _ = some v from rfl)
  have hf : w.frozen? ⟨U, 0, none⟩ = false := by simp [World.frozen?, h3]
  have H3 := Lib.hid h3
  have H4 := Lib.hid h4
  have H5 := Lib.hid h5
  clear h3 h4 h5
  obtain ⟨i0, hi, hz0, hz1, hz2⟩ := info_parts infoStr
  have HI := Lib.hid hi
  have HZ0 := Lib.hid hz0
  have HZ1 := Lib.hid hz1
  have HZ2 := Lib.hid hz2
  clear hi hz0 hz1 hz2
  go_enter Tryz.func64, Tryz.ntmps64
  go_wp2_with (at_builtin; refine wpList_append_own _ rfl _ _ 26 rfl n 9 i0 (.string ⟨#[]⟩) 1 16 Tryz.underlying26 HI.out HZ0.out HZ1.out HZ2.out rfl (by decide) v l.length (l.map Value.string) rfl (H4.out.alloc _) ⟨w.heap.size, 0, none⟩ 1 1 [.string s] rfl rfl ?c1 ?c2 ?c3 ?c4 ?c5 ?_)
  case c1 =>
    intro j u hj
    match j, hj with
    | 0, hj => simp at hj; subst hj; simp [Addr.add]
  case c2 => intro u hu; simp at hu; subst hu; rfl
  case c3 => unfold maxLen; omega
  case c4 => omega
  case c5 => simp; omega
  intro v' w1 hown' hgrow _
  have hU1 : w1.heap[U]? = some (.cells #[v, .bool op] t (0, 0)) := (hgrow.block U (by simp; omega) (fun e => by have := H4.out.lt U e.symm; omega)).trans ((heap_alloc_old w _ U (by omega)).trans H3.out)
  have hM1 : Mo n U w w1 := (Mo.of_below ((Below.refl _ w).alloc (Nat.le_refl _) _) rfl h2).trans ⟨hgrow.os, hgrow.tape, hgrow.output, hgrow.size, fun k hk _ => hgrow.block k (by simp; omega) (fun e => by have := H4.out.lt k e.symm; omega), .of_grownBy hgrow (fun j o hj ho => by
    rcases (H4.out.alloc _).2 with ⟨rfl, _⟩ | ⟨g, cap, cur, rfl, hg1, hg2, _⟩
    · simp [Value.ownBlock] at hj
    · simp [Value.ownBlock] at hj
      subst hj
      rw [hg2] at ho
      obtain rfl := Option.some.inj ho
      rfl)⟩
  have HK := Lib.hid (show ∀ k, m ≤ k → k < w.heap.size → w1.heap[k]? = w.heap[k]? from fun k hk hk2 =>
    (hgrow.block k (by simp; omega) (fun e => by have := H5.out k e.symm; omega)).trans (heap_alloc_old w _ k hk2))
  have hs1 : n ≤ w1.heap.size := by have := hgrow.size; simp at this; omega
  have HM1 := Lib.hid hM1
  obtain ⟨g, cap, rfl⟩ : ∃ g cap, v' = .slice (some ⟨g, 0, none⟩) (l.length + 1) cap := by
    rcases hown'.2 with ⟨_, h0⟩ | ⟨g, cap, cur, e, _⟩
    · omega
    · exact ⟨g, cap, e⟩
  have HU1 := Lib.hid hU1
  have HO := Lib.hid hown'
  have hc1 : w1.cell? ⟨U, 0, none⟩ = some v := (Lib.cell_of_heap hU1 0).trans rfl
  have hf1 := Lib.frozen_of_heap hU1 0
  clear hgrow hU1 hc hf hown' hM1
  go_wp2
  go_end0
  refine ⟨rfl, ⟨h1, by simpa using hs1, .slice (some ⟨g, 0, none⟩) (l.length + 1) cap, t, ?_, ?_⟩, HM1.out.trans (Mo.setU _ _ _ _ _), fun k hk hk2 => (heap_setCell_other _ _ _ _ (show k ≠ U by omega)).trans (HK.out k hk hk2)⟩
  · rw [heap_setCell_same _ _ _ _ _ _ HU1.out]
    rfl
  · have := ownsRow_setCell_below HO.out (a := ⟨U, 0, none⟩) h1 (.slice (some ⟨g, 0, none⟩) (l.length + 1) cap)
    simpa using this

/-- more: the last line goes on. -/
theorem more_any (n U : Nat) (l : List ByteArray) (x : ByteArray) (op : Bool) (s : ByteArray) (w : World) (m : Nat) (h : LinesIn n m U (l ++ [x]) op w) (hl : l.length ≤ 1000000) (hx : x.size + s.size ≤ 1000000000000) :
    Calls Tryz.prog 63 #[.pointer (some ⟨U, 0, none⟩), .string s] w fun e w' => e = .returned (.tuple #[]) ∧ LinesAt n U (l ++ [x ++ s]) op w' ∧ Mo n U w w' ∧ ∀ k, m ≤ k → k < w.heap.size → w'.heap[k]? = w.heap[k]? := by
  obtain ⟨h1, hm1, hm2, v, t, h3, h4, h5⟩ := h
  have h2 : n ≤ w.heap.size := Nat.le_trans hm1 hm2
  rcases h4.2 with ⟨_, h6⟩ | ⟨g, cap, cur, rfl, hg1, hg2, hg3, hg4, hg5, hg6⟩
  · simp at h6
  have hgm : g < m := h5 g rfl
  clear h5
  have hc := (Lib.cell_of_heap h3 0).trans (show _ = some (Value.slice (some ⟨g, 0, none⟩) (l ++ [x]).length cap) from rfl)
  have hf : w.frozen? ⟨U, 0, none⟩ = false := Lib.frozen_of_heap h3 0
  have hcx : w.cell? ⟨g, l.length, none⟩ = some (.string x) := by
    rw [Lib.cell_of_heap hg2]
    have h6 : (cur.toList.take ((l ++ [x]).length * 1))[l.length]? = some (.string x) := by rw [hg6]; simp
    rw [List.getElem?_take] at h6
    simpa using h6
  have hfx : w.frozen? ⟨g, l.length, none⟩ = false := Lib.frozen_of_heap hg2 _
  have hlen : (l ++ [x]).length = l.length + 1 := by simp
  rw [hlen] at hc
  have H3 := Lib.hid h3
  have H4 := Lib.hid h4
  have HG := Lib.hid hg2
  have HX := Lib.hid hg6
  clear h3 h4 hg2 hg6 hlen
  go_enter Tryz.func63, Tryz.ntmps63
  go_wp2
  go_region
  go_end0
  have hgU : U ≠ g := by omega
  refine ⟨rfl, ⟨h1, by simpa using h2, .slice (some ⟨g, 0, none⟩) (l.length + 1) cap, t, ?_, ?_⟩, ?_, fun k hk _ => heap_setCell_other _ _ _ _ (show k ≠ g by omega)⟩
  · show (w.setCell _ _).heap[U]? = _
    rw [heap_setCell_other _ _ _ _ hgU, H3.out]
    simp
  · show (w.setCell _ _).ownsRow _ _ _ _ _ _
    have h7 : cur.size = cap := by simpa using hg5
    have h8 : (l ++ [x]).length = l.length + 1 := by simp
    refine ⟨by simp, .inr ⟨g, cap, cur.setIfInBounds l.length (.string (x ++ s)), by simp, hg1, heap_setCell_same _ _ _ _ _ _ HG.out, by simpa using hg3, hg4, by simpa using hg5, ?_⟩⟩
    have H6 := HX.out
    rw [h8] at H6
    simp only [Nat.mul_one, List.length_append, List.length_cons, List.length_nil, Nat.zero_add] at H6 ⊢
    rw [Array.toList_setIfInBounds, List.take_set, H6]
    simp
  · refine (Mo.refl _ _ _).trans (show Mo n U w (w.setCell ⟨g, l.length, none⟩ (.string (x ++ s))).drew from ?_)
    exact ⟨rfl, rfl, rfl, by simp [World.drew], fun k hk _ => heap_setCell_other _ _ _ _ (show k ≠ g by omega), (KeepsOthers.setCell _ _ _).trans (.drew _)⟩

def rowClose (U : Nat) (s : ByteArray) (w : World) : World := w.setCell ⟨U, 1, none⟩ (.bool !s.toList.isEmpty)
theorem close_any (n U Us Uc : Nat) (l : List ByteArray) (op : Bool) (s : ByteArray) (u : FrameMode) (w : World) (h : LinesAt n U l op w)
    (hs : w.cell? ⟨Us, 0, none⟩ = some (.string s)) (hu : w.cell? ⟨Uc, 0, none⟩ = some (.pointer (some ⟨U, 0, none⟩))) :
    CallsD Tryz.prog 61 #[.pointer (some ⟨Us, 0, none⟩), .pointer (some ⟨Uc, 0, none⟩)] u w fun e u' w' => u' = u ∧ e = .returned (.tuple #[]) ∧ w' = rowClose U s w := by
  obtain ⟨hc, hf, -⟩ := h.cells
  clear h
  go_enter_d Tryz.func61, Tryz.ntmps61
  go_wp2
  go_end0
  exact ⟨rfl, rfl⟩

def otherR (x : Nat) : Bool := x == 0 || x == 13 || decide (127 < x)
theorem isOther_any (x : Nat) (hx : x ≤ 1114111) (w : World) : Calls Tryz.prog 62 #[encR x] w fun e w' => e = .returned (.bool (otherR x)) ∧ w = w' := by
  by_cases h0 : x = 0
  · subst h0
    go_enter Tryz.func62, Tryz.ntmps62
    go_wp2
    go_ret
    exact ⟨rfl, rfl⟩
  by_cases h1 : x = 13
  · subst h1
    go_enter Tryz.func62, Tryz.ntmps62
    go_wp2
    go_ret
    exact ⟨rfl, rfl⟩
  have e0 : ((x : Int) == 0) = false := by rw [beq_eq_false_iff_ne]; omega
  have e1 : ((x : Int) == 13) = false := by rw [beq_eq_false_iff_ne]; omega
  by_cases h2 : 127 < x
  · have e2 : decide ((127 : Int) < (x : Int)) = true := by simp; omega
    have Hv := Lib.hid (show otherR x = true by simp [otherR, h2])
    clear h0 h1 h2
    go_enter Tryz.func62, Tryz.ntmps62
    go_wp2
    go_ret
    refine ⟨?_, rfl⟩
    rw [Hv.out]; rfl
  · have e2 : decide ((127 : Int) < (x : Int)) = false := by simp; omega
    have Hv := Lib.hid (show otherR x = false by simp [otherR, h0, h1, h2])
    clear h0 h1 h2
    go_enter Tryz.func62, Tryz.ntmps62
    go_wp2
    go_ret
    refine ⟨?_, rfl⟩
    rw [Hv.out]; rfl
def hasOtherR (l : List UInt8) : Bool := l.any fun b => otherR b.toNat
theorem other_contains (s : ByteArray) (w : World) : Calls Tryz.prog 38 #[.string s, .func (.func 62) #[] #[]] w fun e w' => e = .returned (.bool (hasOtherR s.data.toList)) ∧ Below w.heap.size w w' := by
  have := Tryz.strings_ContainsFunc_grows 62 #[] (enters_of Tryz.func62 (by kernel_rfl) rfl) otherR s w (fun W x hx _ => (isOther_any x hx W).mono fun e w' ⟨h1, h2⟩ => ⟨h1, by subst h2; exact Below.refl _ _⟩)
  rw [idxFunc_bytes otherR (fun r hr => by simp [otherR]; omega)] at this
  exact this

theorem close_door (n U Us Uc : Nat) (l : List ByteArray) (op : Bool) (s : ByteArray) (w : World) (h : LinesAt n U l op w)
    (hs : w.cell? ⟨Us, 0, none⟩ = some (.string s)) (hu : w.cell? ⟨Uc, 0, none⟩ = some (.pointer (some ⟨U, 0, none⟩))) (tmps : Array Value) (R : Ending → World → Prop)
    (hR : R (.returned (tmps.getD 6 undef)) (rowClose U s w)) :
    Leaves Tryz.prog Tryz.f35 tmps R [{ target := .fn (.func 61) #[.pointer (some ⟨Us, 0, none⟩), .pointer (some ⟨Uc, 0, none⟩)], args := #[] }] .returning w := by
  refine leaves_cons (f := 61) (args := #[.pointer (some ⟨Us, 0, none⟩), .pointer (some ⟨Uc, 0, none⟩)]) (by simp) (by simp [go_sem]) ?_
  refine (close_any n U Us Uc l op s .returning w h hs hu).mono ?_
  rintro e u' w' ⟨rfl, rfl, rfl⟩
  exact ⟨_, results_tmp rfl _ _ _, hR⟩
end Go.Proofs.YtbocflglknkiaaaGreatDoor
