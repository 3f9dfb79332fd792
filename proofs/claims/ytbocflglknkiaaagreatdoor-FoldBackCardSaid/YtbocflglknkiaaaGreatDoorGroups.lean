/- code.groups: the iterator over a text's pieces of k bytes. -/
import Derived.Test.YtbocflglknkiaaaGreatDoorIter
namespace Go.Proofs.YtbocflglknkiaaaGreatDoor
open Go.RowKit Go.Shelf
attribute [local go_sem] Oper.semAt_some
theorem List.range_prefix_range {a b : Nat} (h : a ≤ b) : List.range a <+: List.range b := by
  obtain ⟨c, rfl⟩ := Nat.exists_eq_add_of_le h
  exact ⟨_, (List.range_add).symm⟩

/-- How many pieces of k bytes; piece i. -/
def nPieces (s : ByteArray) (k : Nat) : Nat := (s.size + k - 1) / k
def piece (s : ByteArray) (k i : Nat) : ByteArray := s.extract (i * k) (min (i * k + k) s.size)
theorem nPieces_lt {s : ByteArray} {k i : Nat} (hk : 1 ≤ k) : i < nPieces s k ↔ i * k < s.size := by
  unfold nPieces
  rw [Nat.lt_div_iff_mul_lt (by omega)]
  omega
def pieceV (s : ByteArray) (k i : Nat) : Array Value := #[.int .i64 ((i * k : Nat) : Int), .string (piece s k i)]

set_option maxHeartbeats 1000000 in
theorem groups1_stops (n : Nat) (k : Nat) (hk : 1 ≤ k) (hk9 : k ≤ 9) (Bs Bn : Nat) (s : ByteArray) (hs : s.size ≤ 1000000000) (w : World)
    (hBs : w.cell? ⟨Bs, 0, none⟩ = some (.string s)) (hBn : w.cell? ⟨Bn, 0, none⟩ = some (.int .i64 k)) :
    SeqStopsK Fence.wide n Tryz.prog 47 #[.pointer (some ⟨Bs, 0, none⟩), .pointer (some ⟨Bn, 0, none⟩)] (pieceV s k) (KeepB [Bs, Bn])
      (fun xs => xs = List.range (nPieces s k)) (fun pre => pre <+: List.range (nPieces s k)) (nPieces s k) w := fun l J Jx W hW _ _ hY h0 => by
  have hBs1 : W.cell? ⟨Bs, 0, none⟩ = some (.string s) := (hW.cell (p := ⟨Bs, 0, none⟩) (cell_lt hBs)).trans hBs
  have hBn1 : W.cell? ⟨Bn, 0, none⟩ = some (.int .i64 k) := (hW.cell (p := ⟨Bn, 0, none⟩) (cell_lt hBn)).trans hBn
  clear hBs hBn hW
  refine callsIn_of_wp Tryz.func47 rfl trivial ?_ rfl
  simp only [Tryz.ntmps47, List.size_toArray, List.length_cons, List.length_nil, Nat.reduceAdd, Nat.reduceSub, Array.replicate_succ, Array.replicate_zero, List.push_toArray, List.append_toArray, List.nil_append, List.cons_append]
  gi_wp2
  refine wpIn_scope (wpIn_seq (wpIn_label ?_))
  gi_wp2

  gi_loopw [4] (fun p wr => ∃ i a : Nat, Hid (a = i * k) ∧ p = .int .i64 a ∧ i ≤ nPieces s k ∧ J (List.range i) wr ∧ wr.cell? ⟨Bs, 0, none⟩ = some (.string s) ∧ wr.cell? ⟨Bn, 0, none⟩ = some (.int .i64 k))
    (fun p _ => s.size - (intOf p).toNat)
  case atStart => exact ⟨0, 0, Lib.hid (by simp), rfl, Nat.zero_le _, h0, hBs1, hBn1⟩
  case round =>
    obtain ⟨i, a, ha, rfl, hi, hJ, hs1, hn1⟩ := hrel
    clear hBs1 hBn1 h0
    by_cases hlt : a < s.size
    · have hin : i < nPieces s k := (nPieces_lt hk).2 (by rw [← ha.out]; exact hlt)
      obtain ⟨fn, tmps, assign, body, hy, hR⟩ := hY (List.range i) i wr hJ (by simp; exact hin)
      dsimp only [pieceV, piece] at hy
      rw [← ha.out] at hy
      have hmin : (min ((a : Int) + (k : Int)) (s.size : Int)).toNat = min (a + k) s.size := by omega
      gi_wp2
      refine ⟨fun h => (by cases h), hR.mono ?_⟩
      rintro e W1 (⟨rfl, hJ1, hK⟩ | ⟨rfl, hx⟩)
      · have hs2 := (hK.cell (b := Bs) (o := 0) (by simp)).trans hs1
        have hn2 := (hK.cell (b := Bn) (o := 0) (by simp)).trans hn1
        clear hmin hs1 hn1 hJ hK
        gi_wp2
        go_roundw
        case rel => exact ⟨i + 1, a + k, Lib.hid (by rw [ha.out, Nat.add_mul, Nat.one_mul]), by go_num, hin, by rw [List.range_succ]; exact hJ1, hs2, hn2⟩
        case measure => simp [intOf]; omega
      · gi_wp2
        rw [Exit.noGoto_normal]
        go_end0
        refine ⟨⟨_, rfl⟩, .inr ⟨List.range (i + 1), ?_, by rw [List.range_succ]; exact hx⟩⟩
        exact List.range_prefix_range (by omega)
    · gi_wp2
      rw [Exit.noGoto_normal]
      go_end0
      have : ¬ i < nPieces s k := fun h => hlt (by rw [ha.out]; exact (nPieces_lt hk).1 h)
      obtain rfl : i = nPieces s k := by omega
      exact ⟨⟨_, rfl⟩, .inl ⟨_, rfl, hJ⟩⟩

/-- code.groups itself: the two boxes, and the function over them. -/
theorem groups_any (s : ByteArray) (k : Int) (w : World) :
    Calls Tryz.prog 28 #[.string s, .int .i64 k] w fun e w' => e = .returned (.func (.func 47) #[] #[.pointer (some ⟨w.heap.size, 0, none⟩), .pointer (some ⟨w.heap.size + 1, 0, none⟩)]) ∧
      w' = (w.alloc (.cells #[.string s] 9)).alloc (.cells #[.int .i64 k] 3) := by
  go_enter Tryz.func28, Tryz.ntmps28
  go_wp2
  go_ret
  exact ⟨rfl, rfl⟩
end Go.Proofs.YtbocflglknkiaaaGreatDoor
