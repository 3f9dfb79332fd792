/- What the package-level variables hold, as every walk of this seat takes it; it stays so in every later world. -/
import Derived.Test.YtbocflglknkiaaaGreatDoorErrB
import Derived.Test.YtbocflglknkiaaaGreatDoorErrC
import Derived.Shelf.Unicode.DecodeSlow
namespace Go.Proofs.YtbocflglknkiaaaGreatDoor
open Go.RowKit

/-- Variable g holds a sentinel error, at an address of its own. -/
structure Sent (G : Nat → Addr) (w : World) (g : Nat) : Prop where
  cell : w.cell? ⟨g, 0, none⟩ = some (.iface 159 (.pointer (some (G g))))
  obj : ∃ c t, w.heap[(G g).block]? = some (.cells c t (0, 0))
theorem Sent.below {G : Nat → Addr} {w w' : World} {g : Nat} (h : Sent G w g) (hb : Below w.heap.size w w') : Sent G w' g := by
  refine ⟨(hb.cell (p := ⟨g, 0, none⟩) (cell_lt h.cell)).trans h.cell, ?_⟩
  obtain ⟨c, t, ho⟩ := h.obj
  exact ⟨c, t, (hb.block _ (Array.getElem?_eq_some_iff.1 ho).1).trans ho⟩

structure Env (G : Nat → Addr) (w : World) : Prop where
  errT : w.cell? ⟨4, 0, none⟩ = some (.iface 125 (.agg #[.pointer (some ⟨9, 39, none⟩)]))
  maxLen : ∃ m : Int, w.cell? ⟨6, 0, none⟩ = some (.int .i64 m)
  utf8 : Lib.Utf8Tabs 7 8 w
  s_code_errCode : Sent G w 5
  s_fold_errLarge : Sent G w 0
  s_fold_errFold : Sent G w 1
  s_fold_errItem : Sent G w 2
  s_fold_errUrl : Sent G w 3
  n_fold_errLarge_fold_errFold : G 0 ≠ G 1
  n_fold_errLarge_fold_errItem : G 0 ≠ G 2
  n_fold_errLarge_fold_errUrl : G 0 ≠ G 3
  n_fold_errFold_fold_errLarge : G 1 ≠ G 0
  n_fold_errFold_fold_errItem : G 1 ≠ G 2
  n_fold_errFold_fold_errUrl : G 1 ≠ G 3
  n_fold_errItem_fold_errLarge : G 2 ≠ G 0
  n_fold_errItem_fold_errFold : G 2 ≠ G 1
  n_fold_errItem_fold_errUrl : G 2 ≠ G 3
  n_fold_errUrl_fold_errLarge : G 3 ≠ G 0
  n_fold_errUrl_fold_errFold : G 3 ≠ G 1
  n_fold_errUrl_fold_errItem : G 3 ≠ G 2

theorem Env.below {G : Nat → Addr} {w w' : World} (h : Env G w) (hb : Below w.heap.size w w') : Env G w' where
  errT := (hb.cell (p := ⟨_, 0, none⟩) (cell_lt h.errT)).trans h.errT
  maxLen := by
    obtain ⟨m, hm⟩ := h.maxLen
    exact ⟨m, (hb.cell (p := ⟨_, 0, none⟩) (cell_lt hm)).trans hm⟩
  utf8 := ⟨fun c hc => (hb.cell (p := ⟨_, c, none⟩) (cell_lt (h.utf8.1 c hc))).trans (h.utf8.1 c hc), fun i hi => ⟨(hb.cell (p := ⟨_, 2 * i, none⟩) (cell_lt (h.utf8.2 i hi).1)).trans (h.utf8.2 i hi).1, (hb.cell (p := ⟨_, 2 * i + 1, none⟩) (cell_lt (h.utf8.2 i hi).2)).trans (h.utf8.2 i hi).2⟩⟩
  s_code_errCode := h.s_code_errCode.below hb
  s_fold_errLarge := h.s_fold_errLarge.below hb
  s_fold_errFold := h.s_fold_errFold.below hb
  s_fold_errItem := h.s_fold_errItem.below hb
  s_fold_errUrl := h.s_fold_errUrl.below hb
  n_fold_errLarge_fold_errFold := h.n_fold_errLarge_fold_errFold
  n_fold_errLarge_fold_errItem := h.n_fold_errLarge_fold_errItem
  n_fold_errLarge_fold_errUrl := h.n_fold_errLarge_fold_errUrl
  n_fold_errFold_fold_errLarge := h.n_fold_errFold_fold_errLarge
  n_fold_errFold_fold_errItem := h.n_fold_errFold_fold_errItem
  n_fold_errFold_fold_errUrl := h.n_fold_errFold_fold_errUrl
  n_fold_errItem_fold_errLarge := h.n_fold_errItem_fold_errLarge
  n_fold_errItem_fold_errFold := h.n_fold_errItem_fold_errFold
  n_fold_errItem_fold_errUrl := h.n_fold_errItem_fold_errUrl
  n_fold_errUrl_fold_errLarge := h.n_fold_errUrl_fold_errLarge
  n_fold_errUrl_fold_errFold := h.n_fold_errUrl_fold_errFold
  n_fold_errUrl_fold_errItem := h.n_fold_errUrl_fold_errItem
end Go.Proofs.YtbocflglknkiaaaGreatDoor
