/- A range over a function whose iterator writes variables of its own between the rounds: the contract of such an iterator, and the law for its caller. -/
import Derived.Test.YtbocflglknkiaaaGreatDoorIter
namespace Go.Proofs.YtbocflglknkiaaaGreatDoor
open Go.RowKit Go.Shelf

/-- From A on, the blocks of a list may have turned, and there may be new ones; all else is as it was. -/
structure Exc (bs : List Nat) (A B : World) : Prop where
  size : A.heap.size ≤ B.heap.size
  same : ∀ k, k < A.heap.size → k ∉ bs → B.heap[k]? = A.heap[k]?
  os : B.os = A.os
  tape : B.tape = A.tape
  output : B.output = A.output
theorem Exc.refl (bs : List Nat) (A : World) : Exc bs A A := ⟨Nat.le_refl _, fun _ _ _ => rfl, rfl, rfl, rfl⟩
theorem Exc.trans {bs : List Nat} {A B C : World} (h : Exc bs A B) (k : Exc bs B C) : Exc bs A C :=
  ⟨Nat.le_trans h.size k.size, fun i hi hn => (k.same i (Nat.lt_of_lt_of_le hi h.size) hn).trans (h.same i hi hn), k.os.trans h.os, k.tape.trans h.tape, k.output.trans h.output⟩
theorem Exc.of_below {bs : List Nat} {n : Nat} {A B : World} (h : Below n A B) (hn : A.heap.size ≤ n) : Exc bs A B :=
  ⟨h.size, fun k hk _ => h.block k (Nat.lt_of_lt_of_le hk hn), h.os, h.tape, h.output⟩
theorem Exc.setCell (bs : List Nat) (A : World) {a : Addr} (h : a.block ∈ bs) (v : Value) : Exc bs A (A.setCell a v) :=
  ⟨by simp, fun k _ hn => heap_setCell_other _ _ _ _ (fun e => hn (e ▸ h)), rfl, rfl, rfl⟩
theorem Exc.alloc (bs : List Nat) (A : World) (o : Obj) : Exc bs A (A.alloc o) := .of_below ((Below.refl _ _).alloc (Nat.le_refl _) o) (Nat.le_refl _)
theorem Exc.below {bs : List Nat} {n : Nat} {W A B : World} (h : Exc bs A B) (hb : Below n W A) (hn : ∀ b, b ∈ bs → n ≤ b) (hnA : n ≤ A.heap.size) : Below n W B :=
  hb.trans ⟨h.os, h.tape, h.output, h.size, fun k hk => h.same k (by omega) (fun hm => by have := hn k hm; omega)⟩
theorem Exc.heap {bs : List Nat} {A B : World} (h : Exc bs A B) {k : Nat} {o : Obj} (hk : A.heap[k]? = some o) (hn : k ∉ bs) : B.heap[k]? = some o :=
  (h.same k (Array.getElem?_eq_some_iff.1 hk).1 hn).trans hk
theorem Exc.cell {bs : List Nat} {A B : World} (h : Exc bs A B) {b o : Nat} {v : Value} (hc : A.cell? ⟨b, o, none⟩ = some v) (hn : b ∉ bs) : B.cell? ⟨b, o, none⟩ = some v := by
  have hlt := cell_lt hc
  simp only [World.cell?] at hc ⊢
  rw [h.same b hlt hn]; exact hc
theorem Exc.isB {bs : List Nat} {A B : World} (h : Exc bs A B) {n b : Nat} {l : List Value} (hb : IsB n b l A) (hn : ∀ k, k ∈ bs → k < n) : IsB n b l B := by
  have key : ∀ (k : Nat) (o : Obj), n ≤ k → A.heap[k]? = some o → B.heap[k]? = some o := fun k o hk ho => h.heap ho (fun hm => by have := hn k hm; omega)
  rcases hb with ⟨hB, v, hb, ⟨hl, ho⟩, hne⟩ | ⟨hB, v, hb, ⟨hl, ho⟩, hne⟩
  · refine .inl ⟨hB, v, key _ _ hB hb, ⟨hl, ?_⟩, hne⟩
    rcases ho with ho | ⟨g, cap, cur, fz, h1, h2, h3, h4⟩
    · exact .inl ho
    · exact .inr ⟨g, cap, cur, fz, h1, h2, key _ _ h2 h3, h4⟩
  · refine .inr ⟨hB, v, key _ _ hB hb, ⟨hl, ?_⟩, hne⟩
    rcases ho with ho | ⟨g, cap, cur, fz, h1, h2, h3, h4⟩
    · exact .inl ho
    · exact .inr ⟨g, cap, cur, fz, h1, h2, key _ _ h2 h3, h4⟩

/-- The contract of an iterator that writes the blocks bs of its own: for every loop body that keeps Kp, its words J (a round goes on) and Jx (a round has said: no more) come through. -/
def SeqX {α : Type} (F : Fence) (n : Nat) (P : Program) (g : Nat) (lb : Array Value) (encs : α → Array Value) (Kp : World → World → Prop) (bs : List Nat) (S Sp : List α → Prop) (N : Nat) (w : World) : Prop :=
  ∀ (l : Nat) (J Jx : List α → World → Prop) (W : World), Below w.heap.size w W → (∀ s A B, J s A → Exc bs A B → J s B) → (∀ s A B, Jx s A → Exc bs A B → Jx s B) →
    (∀ pre x W1, J pre W1 → pre.length < N → YieldAt F (n - 1) P l (encs x) W1 fun e W' =>
      (e = .returned (.bool true) ∧ J (pre ++ [x]) W' ∧ Kp W1 W') ∨ (e = .returned (.bool false) ∧ Jx (pre ++ [x]) W')) →
    J [] W →
    CallsIn F n P g (#[.func (.yield l) #[] #[]] ++ lb) W fun e W' => (∃ v, e = .returned v) ∧ ((∃ xs, S xs ∧ J xs W') ∨ (∃ pre, Sp pre ∧ Jx pre W'))

set_option maxHeartbeats 1000000 in
/-- The caller's law. -/
theorem range_over {α : Type} {F : Fence} {P : Program} {n : Nat} {g : Operand} {ps : Array Tmp} {assign body : Code} {Q : Exit → Act → World → Prop} {a : Act} {w : World}
    (hro : F.round = none) (h1 : 1 ≤ n) {gf : Nat} {lb : Array Value} (hg : a.eval g = .func (.func gf) #[] lb) (hFg : F.fn gf) (eg : ∀ args w, (callFunc gf args).run P w = .ok (.enter gf args) w)
    {encs : α → Array Value} {Kp : World → World → Prop} {bs : List Nat} {S Sp : List α → Prop} {N : Nat} {w0 : World} (hseq : SeqX F (n - 1) P gf lb encs Kp bs S Sp N w0) (hbs : ∀ b, b ∈ bs → b < w.heap.size)
    (hKt : ∀ {A B C : World}, Kp A B → Kp B C → Kp A C) (hKb : ∀ (W : World) (l : Nat) (o o' : Obj), w.heap.size ≤ l → W.heap[l]? = some o → o.isCells = false → o.isWalk = false → Kp W (W.putObj l o')) (hb0 : Below w0.heap.size w0 w) (hps : ∀ x, (encs x).size = ps.size)
    (I : List α → World → Prop) (Ix : Code → List α → World → Prop) (hI : OwnFrom w.heap.size I) (hIx : ∀ c, OwnFrom w.heap.size (Ix c)) (hIe : ∀ s A B, I s A → Exc bs A B → I s B) (hIxe : ∀ c s A B, Ix c s A → Exc bs A B → Ix c s B) (h0 : I [] w) (a₁ : α → Act)
    (hassign : ∀ (l : Nat) (x : α) (W : World) (K : Act → World → Prop), K (a₁ x) W →
      assign.wpIn (F.inRound l) (n - 1 - 1) P (Exit.then K (fun _ _ _ => False)) { tmps := (ps.zip (encs x)).foldl (fun t (p, v) => t.setIfInBounds p v) a.tmps, defers := [] } W)
    (hbody : ∀ (l : Nat) (pre : List α) (x : α) (W : World), I pre W → pre.length < N → body.wpIn (F.inRound l) (n - 1 - 1) P (ownPostK Kp I Ix (pre ++ [x]) W) (a₁ x) W)
    (hdone : ∀ (D : Nat) (xs : List α) (W : World), w.heap.size ≤ D → S xs → I xs W → W.heap[D]? = some (.deferred (some [])) → Q .normal { a with defers := { target := .collected D, args := #[] } :: a.defers } W)
    (hstop : ∀ (D : Nat) (c : Code) (pre : List α) (W : World), w.heap.size ≤ D → Sp pre → Ix c pre W → W.heap[D]? = some (.deferred (some [])) → c.wpIn F n P Q { a with defers := { target := .collected D, args := #[] } :: a.defers } W) :
    (Code.rangeFunc g ps assign body).wpIn F n P Q a w := by
  refine wpIn_rangeFunc ?_
  intro fn hfn
  rw [hro]
  obtain ⟨D, hD⟩ : ∃ D, D = w.heap.size := ⟨_, rfl⟩
  obtain ⟨rec, hrec⟩ : ∃ rec : LoopState → Option Code → Loop, rec = fun st pe => { state := st, pending := pe, fn, tmps := a.tmps, params := ps, assign, body, defers := w.heap.size } := ⟨_, rfl⟩
  obtain ⟨W1, hW1⟩ : ∃ W1, (w.alloc (.deferred (some []))).alloc (.loop (rec .ready none)) = W1 := ⟨_, rfl⟩
  have hL1 : W1.heap[D + 1]? = some (.loop (rec .ready none)) := by rw [← hW1, hD]; exact heap_alloc2_new _ _ _
  have hK1 : W1.heap[D]? = some (.deferred (some [])) := by rw [← hW1, hD]; exact heap_alloc2_old _ _ _
  have hI1 : I [] W1 := by rw [← hW1]; exact hI.alloc _ (hI.alloc _ h0)
  have hb1 : Below w0.heap.size w0 W1 := by
    rw [← hW1]; exact hb0.trans ((((Below.refl _ w).alloc (Nat.le_refl _) _).alloc (by simp) _).mono hb0.size)
  have hnD : ∀ k, D ≤ k → k ∉ bs := fun k hk hm => by have := hbs k hm; omega
  have eL : ∀ {k : Nat} {A B : World} {o : Obj}, D ≤ k → A.heap[k]? = some o → Exc bs A B → B.heap[k]? = some o := fun hk ho he => he.heap ho (hnD _ hk)
  refine ⟨D + 1, [{ target := .collected D, args := #[] }], W1, { target := .fn (.func gf) lb, args := #[.func (.yield (D + 1)) #[] #[]] }, W1, gf, #[.func (.yield (D + 1)) #[] #[]] ++ lb, W1, ?_, ?_, ?_, ?_, fun _ => h1, ?_⟩
  · rw [← hW1, hrec, hD]; exact run_enterLoop_outer _ _ _ _ _
  · simp only [resolve, hg]
    simp [go_sem]
  · intro f' hf'; simp [Target.leads] at hf'; subst hf'; exact hFg
  · simp [invoke, go_sem, eg]
  · refine (hseq (D + 1) (fun pre W => I pre W ∧ W.heap[D + 1]? = some (.loop (rec .ready none)) ∧ W.heap[D]? = some (.deferred (some [])))
      (fun pre W => ∃ c, Ix c pre W ∧ W.heap[D + 1]? = some (.loop (rec .done (some c))) ∧ W.heap[D]? = some (.deferred (some [])))
      W1 hb1 (fun s A B h he => ⟨hIe s A B h.1 he, eL (by omega) h.2.1 he, eL (Nat.le_refl _) h.2.2 he⟩)
      (fun s A B h he => by obtain ⟨c, hc, hl, hk⟩ := h; exact ⟨c, hIxe c s A B hc he, eL (by omega) hl he, eL (Nat.le_refl _) hk he⟩) ?_ ⟨hI1, hL1, hK1⟩).mono ?_
    · rintro pre x W ⟨hi, hl, hk⟩ hlen
      have hlt : D + 1 < W.heap.size := (Array.getElem?_eq_some_iff.1 hl).1
      have hy := run_yield (P := P) (args := encs x) hl (by rw [hrec]; exact hps x)
      rw [hrec] at hy
      refine ⟨fn, _, assign, body, hy, roundIn_of_wpIn hfn (hassign _ x W _ ⟨_, run_beginRound hl (by rw [hrec]), ?_⟩)⟩
      obtain ⟨W2, hW2⟩ : ∃ W2, W2 = W.putObj (D + 1) (.loop { rec .ready none with state := .busy }) := ⟨_, rfl⟩
      rw [← hW2]
      have hl2 : W2.heap[D + 1]? = some (.loop { rec .ready none with state := .busy }) := by rw [hW2]; exact World.putObj_heap_same hlt
      have hk2 : W2.heap[D]? = some (.deferred (some [])) := by rw [hW2]; exact (World.putObj_heap_other (by omega)).trans hk
      have hw2 : Kp W W2 := by rw [hW2]; exact hKb _ _ _ _ (by omega) hl rfl rfl
      have hi2 : I pre W2 := by rw [hW2]; exact hI.putObj _ hi (by omega) hl rfl
      have fin : ∀ (jump : Option Code) (W3 : World), KeepsOthers W2 W3 →
          (Instr.endRound (D + 1) jump).run P W3 = .ok (.bool jump.isNone) (W3.putObj (D + 1) (.loop (rec (if jump.isNone then .ready else .done) jump))) ∧
          W3.heap[D + 1]? = some (.loop { rec .ready none with state := .busy }) ∧
          (W3.putObj (D + 1) (.loop (rec (if jump.isNone then .ready else .done) jump))).heap[D + 1]? = some (.loop (rec (if jump.isNone then .ready else .done) jump)) ∧
          (W3.putObj (D + 1) (.loop (rec (if jump.isNone then .ready else .done) jump))).heap[D]? = some (.deferred (some [])) := fun jump W3 hk3 => by
        have hl3 := hk3.same _ _ hl2 rfl
        have hr := run_endRound (P := P) jump hl3
        rw [hrec] at hr ⊢
        exact ⟨hr, by rw [hrec] at hl3; exact hl3, World.putObj_heap_same (Array.getElem?_eq_some_iff.1 hl3).1, (World.putObj_heap_other (by omega)).trans (hk3.same _ _ hk2 rfl)⟩
      have leave : ∀ (c : Code) (W3 : World), KeepsOthers W2 W3 ∧ Ix c (pre ++ [x]) W3 → ∃ b W', (Instr.endRound (D + 1) (some c)).run P W3 = .ok (.bool b) W' ∧
          ((Ending.returned (.bool b) = .returned (.bool true) ∧ (I (pre ++ [x]) W' ∧ W'.heap[D + 1]? = some (.loop (rec .ready none)) ∧ W'.heap[D]? = some (.deferred (some []))) ∧ Kp W W') ∨
           (Ending.returned (.bool b) = .returned (.bool false) ∧ ∃ c, Ix c (pre ++ [x]) W' ∧ W'.heap[D + 1]? = some (.loop (rec .done (some c))) ∧ W'.heap[D]? = some (.deferred (some [])))) := by
        rintro c W3 ⟨hk3, hi3⟩
        obtain ⟨hr, hl3, hl4, hk4⟩ := fin (some c) W3 hk3
        exact ⟨_, _, hr, .inr ⟨rfl, c, (hIx c).putObj _ hi3 (by omega) hl3 rfl, hl4, hk4⟩⟩
      refine wpIn_mono (hbody _ pre x W2 hi2 hlen) ?_
      rintro e a3 W3 hp
      cases e with
      | normal =>
        obtain ⟨hk3, hkp3, hi3⟩ := hp
        obtain ⟨hr, hl3, hl4, hk4⟩ := fin none W3 hk3
        exact ⟨_, _, hr, .inl ⟨rfl, ⟨hI.putObj _ hi3 (by omega) hl3 rfl, hl4, hk4⟩, hKt (hKt hw2 hkp3) (hKb _ _ _ _ (by omega) hl3 rfl rfl)⟩⟩
      | ret => obtain ⟨b, W', h⟩ := leave .ret W3 hp; exact ⟨.bool b, W', h⟩
      | exit id => obtain ⟨b, W', h⟩ := leave (.exit id) W3 hp; exact ⟨.bool b, W', h⟩
      | goto t => obtain ⟨b, W', h⟩ := leave (.goto t) W3 hp; exact ⟨.bool b, W', h⟩
      | panic ch => exact hp.elim
      | outgrown => exact hp.elim
    · rintro e W2 ⟨⟨v, rfl⟩, (⟨xs, hS, hi, hl, hk⟩ | ⟨pre, hSp, c, hi, hl, hk⟩)⟩
      · exact ⟨none, _, by have := run_endLoop (P := P) hl (by rw [hrec]; simp); rw [hrec] at this; exact this, hdone D xs _ (by omega) hS (hI.putObj _ hi (by omega) hl rfl) ((World.putObj_heap_other (by omega)).trans hk)⟩
      · exact ⟨some c, _, by have := run_endLoop (P := P) hl (by rw [hrec]; simp); rw [hrec] at this; exact this, hstop D c pre _ (by omega) hSp ((hIx c).putObj _ hi (by omega) hl rfl) ((World.putObj_heap_other (by omega)).trans hk)⟩
end Go.Proofs.YtbocflglknkiaaaGreatDoor
