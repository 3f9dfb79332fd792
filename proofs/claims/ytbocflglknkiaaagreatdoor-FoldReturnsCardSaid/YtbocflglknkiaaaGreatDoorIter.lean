/- Words for iterators: what a round keeps; small laws. -/
import Derived.RangeFuncNested
import Derived.RangeFuncBound
import Derived.RangeFuncCalls
import Derived.RangeFuncLeaves
import Derived.RangeFuncWrites
import Derived.Shelf.Abstract
import Derived.Shelf.RegionOpen
import Derived.OwnWalkIn
import Derived.TacticsInMore
import Derived.LoopNIn
import Derived.LoopIn
import Derived.Maps.AppendAt
import Derived.Test.YtbocflglknkiaaaGreatDoorBuild
namespace Go.Proofs.YtbocflglknkiaaaGreatDoor
open Go.RowKit Go.Shelf

/-- The blocks of a list lie as they lay. -/
def KeepB (l : List Nat) (W W' : World) : Prop := ∀ b, b ∈ l → W'.heap[b]? = W.heap[b]?
theorem KeepB.trans {l : List Nat} {A B C : World} (h : KeepB l A B) (k : KeepB l B C) : KeepB l A C := fun b hb => (k b hb).trans (h b hb)
theorem KeepB.refl (l : List Nat) (W : World) : KeepB l W W := fun _ _ => rfl
theorem KeepB.cell {l : List Nat} {W W' : World} (h : KeepB l W W') {b o : Nat} (hb : b ∈ l) : W'.cell? ⟨b, o, none⟩ = W.cell? ⟨b, o, none⟩ := by
  simp only [World.cell?, h b hb]
theorem KeepB.frozen {l : List Nat} {W W' : World} (h : KeepB l W W') {b o : Nat} (hb : b ∈ l) : W'.frozen? ⟨b, o, none⟩ = W.frozen? ⟨b, o, none⟩ := by
  simp only [World.frozen?, h b hb]
theorem KeepB.below {l : List Nat} {n : Nat} {W W' : World} (h : Below n W W') (hl : ∀ b, b ∈ l → b < n) : KeepB l W W' := fun b hb => h.block b (hl b hb)
theorem keepB_b {l : List Nat} {w : World} (hl : ∀ b, b ∈ l → b < w.heap.size) (W : World) (r : Nat) (o o' : Obj) (hr : w.heap.size ≤ r) (_ : W.heap[r]? = some o) (_ : o.isCells = false) (_ : o.isWalk = false) : KeepB l W (W.putObj r o') :=
  fun b hb => World.putObj_heap_other (fun e => by have := hl b hb; omega)
/-- Every block of cells lies as it lay. -/
def CK (W W' : World) : Prop := ∀ (k : Nat) (c : Array Value) (t : TypeId) (fz : Nat × Nat), W.heap[k]? = some (Obj.cells c t fz) → W'.heap[k]? = some (Obj.cells c t fz)
theorem CK.cell {W W' : World} (h : CK W W') {a : Addr} {v : Value} (hc : W.cell? a = some v) : W'.cell? a = some v := by
  simp only [World.cell?] at hc ⊢
  split at hc
  · rename_i c t fz hb
    rw [h _ _ _ _ hb]
    exact hc
  · cases hc
theorem CK.frozen {W W' : World} (h : CK W W') {a : Addr} {v : Value} (hc : W.cell? a = some v) : W'.frozen? a = W.frozen? a := by
  simp only [World.cell?] at hc
  split at hc
  · rename_i c t fz hb
    simp only [World.frozen?, h _ _ _ _ hb, hb]
  · cases hc
theorem CK.of_below {n : Nat} {W W' : World} (h : Below n W W') (hn : W.heap.size ≤ n) : CK W W' := fun k _ _ _ hk => (h.block k (Nat.lt_of_lt_of_le (Array.getElem?_eq_some_iff.1 hk).1 hn)).trans hk
theorem own_of_ck {β : Type} {I : β → World → Prop} (h : ∀ s W W', CK W W' → I s W → I s W') : Own I :=
  fun s W W' _ hs hg hr => h s W W' (fun _ _ _ _ hk => (grownBy_keeps_cells hg hr hk rfl).trans hk) hs
theorem IsB.ck {B b : Nat} {bs : List Value} {W W' : World} (h : IsB B b bs W) (hk : CK W W') : IsB B b bs W' := by
  rcases h with ⟨hB, v, hb, ⟨hl, ho⟩, hn⟩ | ⟨hB, v, hb, ⟨hl, ho⟩, hn⟩
  · refine .inl ⟨hB, v, hk _ _ _ _ hb, ⟨hl, ?_⟩, hn⟩
    rcases ho with ho | ⟨g, cap, cur, fz, h1, h2, h3, h4⟩
    · exact .inl ho
    · exact .inr ⟨g, cap, cur, fz, h1, h2, hk _ _ _ _ h3, h4⟩
  · refine .inr ⟨hB, v, hk _ _ _ _ hb, ⟨hl, ?_⟩, hn⟩
    rcases ho with ho | ⟨g, cap, cur, fz, h1, h2, h3, h4⟩
    · exact .inl ho
    · exact .inr ⟨g, cap, cur, fz, h1, h2, hk _ _ _ _ h3, h4⟩
theorem OthB.keepsOthers {B b : Nat} {W W' : World} (h : OthB b W W') (hB : Below B W W') (hc : ∃ c t fz, W.heap[b]? = some (Obj.cells c t fz)) : KeepsOthers W W' :=
  ⟨hB.size, fun k o hk ho => h k o hk (fun e => by obtain ⟨c, t, fz, hb⟩ := hc; cases e; rw [hk] at hb; cases hb; cases ho) (fun c fz e => by subst e; cases ho)⟩
theorem IsB.block {B b : Nat} {bs : List Value} {W : World} (h : IsB B b bs W) : ∃ c t fz, W.heap[b]? = some (Obj.cells c t fz) := by
  rcases h with ⟨_, v, hb, _⟩ | ⟨_, v, hb, _⟩ <;> exact ⟨_, _, _, hb⟩
theorem IsB.lt {B b : Nat} {bs : List Value} {W : World} (h : IsB B b bs W) : b < W.heap.size := by
  obtain ⟨c, t, fz, hb⟩ := h.block
  exact (Array.getElem?_eq_some_iff.1 hb).1
theorem IsB.fresh (w : World) : IsB w.heap.size w.heap.size [] (w.alloc (.cells #[.pointer none, .slice none 0 0] 46)) := .of (Lib.fresh_isBuilder _ _ w)
/-- A block of cells that is none of bytes, and not the builder's, is kept. -/
theorem OthB.cells {b : Nat} {W W' : World} (h : OthB b W W') {k : Nat} {c : Array Value} {t : TypeId} {fz : Nat × Nat} (hk : W.heap[k]? = some (.cells c t fz)) (hb : k ≠ b) (ht : t ≠ 5) : W'.heap[k]? = some (.cells c t fz) :=
  h k _ hk (fun e => hb (by cases e; rfl)) (fun c' fz' e => ht (by cases e; rfl))

/-! A scope (a function that bears a label) inside a fence, gone through without a goto. -/
section
variable {F : Fence} {n : Nat} {P : Program} {b : Frame} {a : Act} {k : List Item} {cs : List Frame} {w : World} {Q : Exit → Act → World → Prop}
theorem stepR_scope {c : Code} : step P (lone (b.atR a (.code (.scope c) :: k)) cs w) = .next (lone (b.atR a (.code c :: .inScope c :: k)) cs w) :=
  step_lone_go (by simp [stepG, stepG.exec, Frame.atR])
theorem stepR_inScope {c : Code} : step P (lone (b.atR a (.inScope c :: k)) cs w) = .next (lone (b.atR a k) cs w) :=
  step_lone_go (by simp [stepG, stepG.exec, Frame.atR])
theorem wpIn_scope {c : Code} (h : c.wpIn F n P (Exit.noGoto Q) a w) : (Code.scope c).wpIn F n P Q a w := by
  intro b k cs hro hb hr
  have h0 : (lone (b.atR a (.code (.scope c) :: k)) cs w).fenced P F := fenced_calm hb hr rfl
  obtain ⟨e, a₁, w₁, hq, harr⟩ := h b (.inScope c :: k) cs hro hb hr
  cases e with
  | normal => exact ⟨.normal, a₁, w₁, hq, .head h0 stepR_scope (StepsIn.trans harr (.one (fenced_calm hb hr rfl) stepR_inScope))⟩
  | exit id =>
    have hx : exitTo id (.inScope c :: k) = exitTo id k := by simp [exitTo]
    exact ⟨.exit id, a₁, w₁, hq, fun k' hk => .head h0 stepR_scope (harr.1 k' (by rw [hx]; exact hk)),
        fun hr' hk => let ⟨k₁, h1, h2⟩ := harr.2 hr' (by rw [hx]; exact hk); ⟨k₁, h1, .head h0 stepR_scope h2⟩⟩
  | goto l => exact hq.elim
  | ret => exact ⟨_, a₁, w₁, hq, .of_steps (.one h0 stepR_scope) harr⟩
  | panic ch => exact ⟨_, a₁, w₁, hq, .of_steps (.one h0 stepR_scope) harr⟩
  | outgrown => exact ⟨_, a₁, w₁, hq, .of_steps (.one h0 stepR_scope) harr⟩
end
theorem bdrew {B : Nat} {a w : World} (h : Below B a w) (n : Nat) : Below B a (w.drewN n) := h.trans ⟨rfl, rfl, rfl, Nat.le_refl _, fun _ _ => rfl⟩
theorem keepsOthers_below {W W' : World} (h : Below W.heap.size W W') : KeepsOthers W W' :=
  ⟨h.size, fun k _ hk _ => (h.block k (Array.getElem?_eq_some_iff.1 hk).1).trans hk⟩
end Go.Proofs.YtbocflglknkiaaaGreatDoor
