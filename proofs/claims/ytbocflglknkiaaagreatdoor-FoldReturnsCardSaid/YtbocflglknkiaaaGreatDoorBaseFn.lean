/- code.Base: a text's base64. -/
import Derived.Test.YtbocflglknkiaaaGreatDoorGroup
import Derived.Test.YtbocflglknkiaaaGreatDoorGroups
namespace Go.Proofs.YtbocflglknkiaaaGreatDoor
open Go.RowKit Go.Shelf
attribute [local go_sem] Oper.semAt_some

def outL (s : ByteArray) (pre : List Nat) : List UInt8 := pre.flatMap fun i => groupL (piece s 3 i).data.toList
theorem groupL_length (l : List UInt8) : (groupL l).length = 4 := by
  match l with
  | [] => rfl
  | [_] => rfl
  | [_, _] => rfl
  | [_, _, _] => rfl
  | _ :: _ :: _ :: _ :: _ => rfl
theorem outL_length (s : ByteArray) (pre : List Nat) : (outL s pre).length = 4 * pre.length := by
  induction pre with
  | nil => rfl
  | cons a r ih =>
    rw [outL] at ih
    rw [outL, List.flatMap_cons, List.length_append, ih, groupL_length, List.length_cons]
    omega
theorem outL_snoc (s : ByteArray) (pre : List Nat) (x : Nat) : outL s (pre ++ [x]) = outL s pre ++ groupL (piece s 3 x).data.toList := by
  simp [outL]

theorem build_coder : Array.foldl (fun (cs : Array Value) (x : Value × Nat) => cs.setIfInBounds x.snd x.fst) #[.int .u8 0, .int .u8 0, .int .u8 0, .int .u8 0, .int .u8 0, .int .u8 0, .int .u8 0, .int .u8 0, .int .u8 0, .int .u8 0, .int .u8 0, .int .u8 0, .int .u8 0, .int .u8 0, .int .u8 0, .int .u8 0, .int .u8 0, .int .u8 0, .int .u8 0, .int .u8 0, .int .u8 0, .int .u8 0, .int .u8 0, .int .u8 0, .int .u8 0, .int .u8 0, .int .u8 0, .int .u8 0, .int .u8 0, .int .u8 0, .int .u8 0, .int .u8 0, .int .u8 0, .int .u8 0, .int .u8 0, .int .u8 0, .int .u8 0, .int .u8 0, .int .u8 0, .int .u8 0, .int .u8 0, .int .u8 0, .int .u8 0, .int .u8 0, .int .u8 0, .int .u8 0, .int .u8 0, .int .u8 0, .int .u8 0, .int .u8 0, .int .u8 0, .int .u8 0, .int .u8 0, .int .u8 0, .int .u8 0, .int .u8 0, .int .u8 0, .int .u8 0, .int .u8 0, .int .u8 0, .int .u8 0, .int .u8 0, .int .u8 0, .int .u8 0] ((tabTo 64).zipIdx) 0 (tabTo 64).size = tabTo 64 := by kernel_rfl

set_option maxHeartbeats 2000000 in
set_option maxRecDepth 100000 in
theorem base_walk (s : ByteArray) (hs : s.size ≤ 100000000) (w : World) :
    Calls Tryz.prog 16 #[.string s] w fun e w' => e = .returned (.string ⟨(outL s (List.range (nPieces s 3))).toArray⟩) ∧ Below w.heap.size w w' := by
  have hbd := build_coder
  refine (callsIn_wide (n := 9)).1 ?_
  refine callsIn_of_wp_marks Tryz.func16 rfl trivial ?_ rfl
  simp only [Tryz.ntmps16, List.size_toArray, List.length_cons, List.length_nil, Nat.reduceAdd, Nat.reduceSub, Array.replicate_succ, Array.replicate_zero, List.push_toArray, List.append_toArray, List.nil_append, List.cons_append]
  gi_wp2_with fail
  refine ⟨trivial, ?_⟩
  refine (callsIn_wide.2 (all_any _)).mono ?_
  rintro e w1 ⟨rfl, hB1⟩
  gi_wp2_with fail
  clear hbd
  obtain ⟨W1, hW1⟩ : ∃ W1, W1 = ((w1.alloc (.cells (tabTo 64) 62)).alloc (.cells #[.pointer (some ⟨w1.heap.size, 0, none⟩)] 57)).alloc (.cells #[.pointer none, .slice none 0 0] 46) := ⟨_, rfl⟩
  rw [← hW1]
  have hz1 : W1.heap.size = w1.heap.size + 3 := by rw [hW1]; simp
  have hBw : Below w.heap.size w W1 := by rw [hW1]; exact ((hB1.alloc hB1.size _).alloc (by have := hB1.size; simp; omega) _).alloc (by have := hB1.size; simp; omega) _
  have hcod : W1.heap[w1.heap.size]? = some (.cells (tabTo 64) 62 (0, 0)) := by
    rw [hW1, heap_alloc_old _ _ _ (by simp; omega), heap_alloc_old _ _ _ (by simp)]; exact heap_alloc_new _ _
  have hbox : W1.heap[w1.heap.size + 1]? = some (.cells #[.pointer (some ⟨w1.heap.size, 0, none⟩)] 57 (0, 0)) := by
    rw [hW1, heap_alloc_old _ _ _ (by simp)]; exact heap_alloc2_new _ _ _
  have hbld : IsB (w1.heap.size + 2) (w1.heap.size + 2) (Lib.byteCells []) W1 := by
    have := IsB.fresh ((w1.alloc (.cells (tabTo 64) 62)).alloc (.cells #[.pointer (some ⟨w1.heap.size, 0, none⟩)] 57))
    rw [World.size_alloc, World.size_alloc] at this
    rw [hW1]; exact this
  have hzw := hB1.size
  have hz2 : w1.heap.size + 2 < W1.heap.size := by omega
  clear hW1 hz1
  refine ⟨trivial, ?_⟩
  refine (callsIn_wide.2 (groups_any _ _ _)).mono ?_
  rintro e w2 ⟨rfl, rfl⟩
  gi_wp2_with fail
  refine wpIn_rangeFunc_ownF rfl (by omega) (gf := 47) (lb := #[.pointer (some ⟨W1.heap.size, 0, none⟩), .pointer (some ⟨W1.heap.size + 1, 0, none⟩)]) rfl trivial (enters_of Tryz.func47 (by kernel_rfl) rfl)
    (groups1_stops 8 3 (by omega) (by omega) W1.heap.size (W1.heap.size + 1) s (by omega) _ (by simp) (by simp)) KeepB.trans (keepB_b (by simp; omega)) (Below.refl _ _) (fun _ => rfl)
    (fun pre W => ((W.heap[w1.heap.size]? = some (.cells (tabTo 64) 62 (0, 0)) ∧ W.heap[w1.heap.size + 1]? = some (.cells #[.pointer (some ⟨w1.heap.size, 0, none⟩)] 57 (0, 0)) ∧ W.heap[W1.heap.size]? = some (.cells #[.string s] 9 (0, 0)) ∧ W.heap[W1.heap.size + 1]? = some (.cells #[.int .i64 3] 3 (0, 0))) ∧ (IsB (w1.heap.size + 2) (w1.heap.size + 2) (Lib.byteCells (outL s pre)) W)) ∧ Below w.heap.size w W)
    (fun _ _ _ => False)
    (OwnFrom.and (Own.from (own_of_ck fun pre A B hk h => ⟨⟨hk _ _ _ _ h.1.1, hk _ _ _ _ h.1.2.1, hk _ _ _ _ h.1.2.2.1, hk _ _ _ _ h.1.2.2.2⟩, h.2.ck hk⟩) _) (ownFrom_below (Nat.le_refl _) (by simp; omega)))
    (fun _ => fun _ _ _ _ hs _ _ => hs)
    ⟨⟨⟨(heap_alloc_old _ _ _ (by simp; omega)).trans ((heap_alloc_old _ _ _ (by omega)).trans hcod), (heap_alloc_old _ _ _ (by simp; omega)).trans ((heap_alloc_old _ _ _ (by omega)).trans hbox), heap_alloc2_old _ _ _, heap_alloc2_new _ _ _⟩, hbld.ck (CK.of_below (((Below.refl _ _).alloc (Nat.le_refl _) _).alloc (by simp) _) (Nat.le_refl _))⟩, (hBw.alloc (by omega) _).alloc (by simp; omega) _⟩
    (fun x => { tmps := #[.string s, undef, .string ⟨#[]⟩, .pointer (some ⟨w1.heap.size + 1, 0, none⟩), .pointer (some ⟨w1.heap.size + 1 + 1, 0, none⟩), undef, .string (piece s 3 x), .agg (tabTo 64), .agg (tabTo 64), .pointer (some ⟨w1.heap.size, 0, none⟩), .string s, .func (.func 47) #[] #[.pointer (some ⟨W1.heap.size, 0, none⟩), .pointer (some ⟨W1.heap.size + 1, 0, none⟩)], .int .i64 ((x * 3 : Nat) : Int), .string (piece s 3 x), undef, undef, undef, undef, undef], defers := [] }) ?assign ?body ?done ?stop
  case assign =>
    intro l x W K hK
    simp only [pieceV]
    gi_wp2
    exact hK
  case body =>
    rintro l pre x W ⟨⟨⟨h1, h2, h4, h5⟩, h3⟩, hB⟩ hlen
    have hc := Lib.cell_of_heap h2 0
    simp only [List.getElem?_toArray, List.getElem?_cons_zero] at hc
    gi_wp2_with fail
    refine ⟨trivial, ?_⟩
    refine (CallsIn.inRound l (callsIn_wide.2 (group_any w1.heap.size (piece s 3 x) _ (fun j hj => by rw [Lib.cell_of_heap h1, tabTo_get _ _ hj, if_pos hj])))).mono ?_
    rintro e W2 ⟨rfl, hB2⟩
    have k1 : CK W W2 := CK.of_below hB2 (Nat.le_refl _)
    have h3' := h3.ck k1
    have hlen2 : (outL s pre).length ≤ 4 * nPieces s 3 := by rw [outL_length]; omega
    have hnp : nPieces s 3 ≤ s.size := by unfold nPieces; omega
    gi_wp2_with fail
    refine ⟨trivial, ?_⟩
    refine (CallsIn.inRound l (callsIn_wide.2 (wString _ _ _ _ _ h3' (by rw [Lib.byteCells_length]; simp [ByteArray.size, groupL_length]; omega) (by have := h3'.lt; omega)))).mono ?_
    rintro e W3 ⟨rfl, h3n, hB3, hO3⟩
    gi_wp2
    refine ⟨(keepsOthers_below hB2).trans (OthB.keepsOthers hO3 hB3 h3'.block), ?_, ⟨⟨hO3.cells (k1 _ _ _ _ h1) (by omega) (by decide), hO3.cells (k1 _ _ _ _ h2) (by omega) (by decide), hO3.cells (k1 _ _ _ _ h4) (by omega) (by decide), hO3.cells (k1 _ _ _ _ h5) (by omega) (by decide)⟩, ?_⟩, ?_⟩
    · intro k hk
      have hk' : k = W1.heap.size ∨ k = W1.heap.size + 1 := by simpa using hk
      rcases hk' with rfl | rfl
      · rw [hO3.cells (k1 _ _ _ _ h4) (by omega) (by decide), h4]
      · rw [hO3.cells (k1 _ _ _ _ h5) (by omega) (by decide), h5]
    · rw [outL_snoc, Lib.byteCells_append]; exact h3n
    · exact hB.trans ((hB2.mono hB.size).trans (hB3.mono (by omega)))
  case done =>
    rintro D ys W hD rfl ⟨⟨_, h3⟩, hB⟩ hK
    gi_wp2_with fail
    refine ⟨trivial, ?_⟩
    refine (callsIn_wide.2 (bString _ _ _ _ h3 (by have := h3.lt; omega))).mono ?_
    rintro e W2 ⟨rfl, _, hB2, hO2⟩
    have hK2 : W2.heap[D]? = some (.deferred (some [])) := hO2 D _ hK (fun e => by cases e; obtain ⟨c, t, fz, hb⟩ := h3.block; rw [hb] at hK; cases hK) (fun c fz e => by cases e)
    gi_wp2
    refine ⟨by simp, .inl ⟨_, _, rfl, run_takeDeferred hK2, ?_⟩⟩
    exact ⟨_, results_tmp rfl _ _ _, rfl, (hB.trans (hB2.mono (by omega))).trans (belowK_b (w := w) (Nat.le_refl _) W2 D _ _ (by simp at hD; omega) hK2 rfl rfl)⟩
  case stop =>
    rintro D c pre W _ _ h _
    exact h.elim
end Go.Proofs.YtbocflglknkiaaaGreatDoor
