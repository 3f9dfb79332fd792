/- From the row's condition (what the listed variables read as) to the words of this seat's walks. -/
import Derived.Test.YtbocflglknkiaaaGreatDoorEnv
import Derived.Test.YtbocflglknkiaaaGreatDoorRows
import Derived.LaidLaws
import Derived.LaidHandle
import Derived.Lib.LaidU8T
import Derived.PinnedBridge
import Derived.ShapedOpen
import Derived.Shelf.Vars
import Derived.ChangeVars
import Derived.Stop.LaidErr
namespace Go.Proofs.YtbocflglknkiaaaGreatDoor
open Go.RowKit Go.Shelf Go.ChangeShapes Go.WideShapes

def laidP : List (String × DataW Unit) := [("unicode/utf8.acceptRanges", Rows.laid_unicode_utf8_acceptRanges), ("latiner/code.errCode", Rows.laid_latiner_code_errCode), ("latiner/fold.errLarge", Rows.laid_latiner_fold_errLarge), ("latiner/fold.errFold", Rows.laid_latiner_fold_errFold), ("latiner/fold.errItem", Rows.laid_latiner_fold_errItem), ("latiner/fold.errUrl", Rows.laid_latiner_fold_errUrl), ("unicode/utf8.first", Rows.laid_unicode_utf8_first)]
def laidAll : List (String × DataW Unit) := [("unicode/utf8.acceptRanges", Rows.laid_unicode_utf8_acceptRanges), ("errors.errorType", Rows.laid_errors_errorType), ("latiner/code.errCode", Rows.laid_latiner_code_errCode), ("latiner/fold.errLarge", Rows.laid_latiner_fold_errLarge), ("latiner/fold.errFold", Rows.laid_latiner_fold_errFold), ("latiner/fold.errItem", Rows.laid_latiner_fold_errItem), ("latiner/fold.errUrl", Rows.laid_latiner_fold_errUrl), ("unicode/utf8.first", Rows.laid_unicode_utf8_first)]
def reN : Ren := ⟨fun x => x, fun | 5 => 5 | 119 => 155 | 138 => 157 | 139 => 158 | n => n, fun | 3 => 7 | 4 => 8 | n => n⟩
theorem u8T : U8Types Tryz.prog reN := ⟨by kernel_rfl, by kernel_rfl, by kernel_rfl, by kernel_rfl⟩
theorem u8X : U8Extra Tryz.prog reN := ⟨by kernel_rfl, by kernel_rfl, by kernel_rfl, by kernel_rfl, by kernel_rfl, by kernel_rfl, by kernel_rfl⟩
theorem accept_eq : Rows.laid_unicode_utf8_acceptRanges = Lib.acceptData := by kernel_rfl
theorem first_eq : Rows.laid_unicode_utf8_first = Lib.firstData := Pinned.utf8First_eq
theorem star_es : "*" ++ "errors.errorString" = "*errors.errorString" := by decide
theorem rowES (u : TypeId) (h : Tryz.prog.typeName? 3 u = some "*errors.errorString") : u = 159 :=
  typeName_ptr_named (nm := "errors.errorString") (by rw [star_es]; kernel_rfl) (by kernel_rfl) (by decide) u (by rw [star_es]; exact h)
theorem cellsES : Tryz.prog.cellsOf 178 = 1 := by kernel_rfl
theorem cellsStr : Tryz.prog.cellsOf 9 = 1 := by kernel_rfl
theorem gET : Tryz.prog.globalNamed "errors.errorType" = some 4 := by kernel_rfl
theorem rtES : (Tryz.prog.cutTypes.find? (·.1 == "internal/reflectlite.rtype")).map (·.2) = some 125 := by kernel_rfl
theorem oneRow : ((List.range 190).filter fun t => Tryz.prog.rowNamed t [101, 114, 114, 111, 114]) = [39] := by kernel_rfl
theorem typesSize : Tryz.prog.types.size = 190 := by kernel_rfl
theorem handle_of {W : World} {d : DataW Unit} (hd : d = Rows.laid_errors_errorType) (h : handlesMet Tryz.prog [("errors.errorType", d)] W) :
    W.cell? ⟨4, 0, none⟩ = some (.iface 125 (.agg #[.pointer (some ⟨9, 39, none⟩)])) := by
  subst hd
  obtain ⟨name, u, ty, e1, e2, e3, e4, e5⟩ := h _ (List.mem_singleton.2 rfl)
  have en : name = [101, 114, 114, 111, 114] := (Option.some.inj e1).symm
  subst en
  obtain rfl := Option.some.inj (rtES.symm.trans e2)
  have hm : ty ∈ (List.range 190).filter fun t => Tryz.prog.rowNamed t [101, 114, 114, 111, 114] := List.mem_filter.2 ⟨List.mem_range.2 (by rw [← typesSize]; exact e3), e4⟩
  rw [oneRow] at hm
  obtain rfl := List.mem_singleton.1 hm
  have hh : typeHandle Tryz.prog 39 = .pointer (some ⟨9, 39, none⟩) := by kernel_rfl
  rw [hh] at e5
  simpa using World.var?_cell gET e5 0
theorem maxLen_of {W : World} (h : W.ShapedOpen Tryz.prog) : ∃ m : Int, W.cell? ⟨6, 0, none⟩ = some (.int .i64 m) :=
  Go.Proofs.cell_of_shapedOpen_int (zero := #[.int .i64 0]) (t := 3) h (of_decide_eq_true (by kernel_rfl)) (by kernel_rfl) rfl (by kernel_rfl) (by kernel_rfl) Tryz.underlying3
theorem utf8_of {W : World} (h : laidMet Tryz.prog laidP W) : Lib.Utf8Tabs 7 8 W := by
  have h1 := Lib.laidMet.reads h (show ("unicode/utf8.first", Rows.laid_unicode_utf8_first) ∈ laidP by simp [laidP])
  have h2 := Lib.laidMet.reads h (show ("unicode/utf8.acceptRanges", Rows.laid_unicode_utf8_acceptRanges) ∈ laidP by simp [laidP])
  rw [first_eq] at h1
  rw [accept_eq] at h2
  exact utf8Tabs_of_readsT u8T u8X h1 h2

theorem g_code_errCode : Tryz.prog.globalNamed "latiner/code.errCode" = some 5 := by kernel_rfl
theorem t_code_errCode : (Tryz.prog.globals[5]?).map (·.type) = some 39 := by kernel_rfl
theorem g_fold_errLarge : Tryz.prog.globalNamed "latiner/fold.errLarge" = some 0 := by kernel_rfl
theorem t_fold_errLarge : (Tryz.prog.globals[0]?).map (·.type) = some 39 := by kernel_rfl
theorem g_fold_errFold : Tryz.prog.globalNamed "latiner/fold.errFold" = some 1 := by kernel_rfl
theorem t_fold_errFold : (Tryz.prog.globals[1]?).map (·.type) = some 39 := by kernel_rfl
theorem g_fold_errItem : Tryz.prog.globalNamed "latiner/fold.errItem" = some 2 := by kernel_rfl
theorem t_fold_errItem : (Tryz.prog.globals[2]?).map (·.type) = some 39 := by kernel_rfl
theorem g_fold_errUrl : Tryz.prog.globalNamed "latiner/fold.errUrl" = some 3 := by kernel_rfl
theorem t_fold_errUrl : (Tryz.prog.globals[3]?).map (·.type) = some 39 := by kernel_rfl

/-- Where a sentinel's text lies, and that this is a block of its own. -/
def AtS (W : World) (g : Nat) (a : Addr) : Prop := W.cell? ⟨g, 0, none⟩ = some (.iface 159 (.pointer (some a))) ∧ ∃ c t, W.heap[a.block]? = some (.cells c t (0, 0))
set_option maxHeartbeats 2000000 in
set_option maxRecDepth 100000 in
theorem sents_of {W : World} (h : laidMet Tryz.prog laidP W) : ∃ a1 a2 a3 a4 a5 : Addr, AtS W 5 a1 ∧ AtS W 0 a2 ∧ AtS W 1 a3 ∧ AtS W 2 a4 ∧ AtS W 3 a5 ∧ a2 ≠ a3 ∧ a2 ≠ a4 ∧ a2 ≠ a5 ∧ a3 ≠ a2 ∧ a3 ≠ a4 ∧ a3 ≠ a5 ∧ a4 ≠ a2 ∧ a4 ≠ a3 ∧ a4 ≠ a5 ∧ a5 ≠ a2 ∧ a5 ≠ a3 ∧ a5 ≠ a4 := by
  unfold laidP at h
  obtain ⟨ps, ⟨g0, t0, cs0, f0, p0, q0, hg0, ht0, hv0, hd0, ⟨g1, t1, cs1, f1, p1, q1, hg1, ht1, hv1, hd1, ⟨g2, t2, cs2, f2, p2, q2, hg2, ht2, hv2, hd2, ⟨g3, t3, cs3, f3, p3, q3, hg3, ht3, hv3, hd3, ⟨g4, t4, cs4, f4, p4, q4, hg4, ht4, hv4, hd4, ⟨g5, t5, cs5, f5, p5, q5, hg5, ht5, hv5, hd5, ⟨g6, t6, cs6, f6, p6, q6, hg6, ht6, hv6, hd6, hnil, e6⟩, e5⟩, e4⟩, e3⟩, e2⟩, e1⟩, e0⟩, hnd, hrows⟩ := h
  subst e6
  subst e5
  subst e4
  subst e3
  subst e2
  subst e1
  subst e0
  obtain rfl := Option.some.inj (g_code_errCode.symm.trans hg1)
  obtain rfl := Option.some.inj (t_code_errCode.symm.trans ht1)
  obtain ⟨l1⟩ := cs1
  have ok1 : ∀ u v, l1 = [.iface u v] → Value.okWide Tryz.prog W .any 0 u v := fun u v e => by
    subst e
    exact (hrows 5 0 (by simp [MemPlace.row])).2 u v (by simpa using World.var?_cell hg1 hv1 0)
  obtain ⟨a1, s1, rfl, hc1, _, _, rfl⟩ := errorString_of_trod Tryz.underlying39 rowES Tryz.underlying159 Tryz.underlying178 rfl rfl Tryz.underlying9 cellsES cellsStr hd1 ok1
  have hk1 : AtS W 5 a1 := ⟨by simpa using World.var?_cell hg1 hv1 0, (hrows a1.block a1.off (by simp [MemPlace.row])).1⟩
  obtain rfl := Option.some.inj (g_fold_errLarge.symm.trans hg2)
  obtain rfl := Option.some.inj (t_fold_errLarge.symm.trans ht2)
  obtain ⟨l2⟩ := cs2
  have ok2 : ∀ u v, l2 = [.iface u v] → Value.okWide Tryz.prog W .any 0 u v := fun u v e => by
    subst e
    exact (hrows 0 0 (by simp [MemPlace.row])).2 u v (by simpa using World.var?_cell hg2 hv2 0)
  obtain ⟨a2, s2, rfl, hc2, _, _, rfl⟩ := errorString_of_trod Tryz.underlying39 rowES Tryz.underlying159 Tryz.underlying178 rfl rfl Tryz.underlying9 cellsES cellsStr hd2 ok2
  have hk2 : AtS W 0 a2 := ⟨by simpa using World.var?_cell hg2 hv2 0, (hrows a2.block a2.off (by simp [MemPlace.row])).1⟩
  obtain rfl := Option.some.inj (g_fold_errFold.symm.trans hg3)
  obtain rfl := Option.some.inj (t_fold_errFold.symm.trans ht3)
  obtain ⟨l3⟩ := cs3
  have ok3 : ∀ u v, l3 = [.iface u v] → Value.okWide Tryz.prog W .any 0 u v := fun u v e => by
    subst e
    exact (hrows 1 0 (by simp [MemPlace.row])).2 u v (by simpa using World.var?_cell hg3 hv3 0)
  obtain ⟨a3, s3, rfl, hc3, _, _, rfl⟩ := errorString_of_trod Tryz.underlying39 rowES Tryz.underlying159 Tryz.underlying178 rfl rfl Tryz.underlying9 cellsES cellsStr hd3 ok3
  have hk3 : AtS W 1 a3 := ⟨by simpa using World.var?_cell hg3 hv3 0, (hrows a3.block a3.off (by simp [MemPlace.row])).1⟩
  obtain rfl := Option.some.inj (g_fold_errItem.symm.trans hg4)
  obtain rfl := Option.some.inj (t_fold_errItem.symm.trans ht4)
  obtain ⟨l4⟩ := cs4
  have ok4 : ∀ u v, l4 = [.iface u v] → Value.okWide Tryz.prog W .any 0 u v := fun u v e => by
    subst e
    exact (hrows 2 0 (by simp [MemPlace.row])).2 u v (by simpa using World.var?_cell hg4 hv4 0)
  obtain ⟨a4, s4, rfl, hc4, _, _, rfl⟩ := errorString_of_trod Tryz.underlying39 rowES Tryz.underlying159 Tryz.underlying178 rfl rfl Tryz.underlying9 cellsES cellsStr hd4 ok4
  have hk4 : AtS W 2 a4 := ⟨by simpa using World.var?_cell hg4 hv4 0, (hrows a4.block a4.off (by simp [MemPlace.row])).1⟩
  obtain rfl := Option.some.inj (g_fold_errUrl.symm.trans hg5)
  obtain rfl := Option.some.inj (t_fold_errUrl.symm.trans ht5)
  obtain ⟨l5⟩ := cs5
  have ok5 : ∀ u v, l5 = [.iface u v] → Value.okWide Tryz.prog W .any 0 u v := fun u v e => by
    subst e
    exact (hrows 3 0 (by simp [MemPlace.row])).2 u v (by simpa using World.var?_cell hg5 hv5 0)
  obtain ⟨a5, s5, rfl, hc5, _, _, rfl⟩ := errorString_of_trod Tryz.underlying39 rowES Tryz.underlying159 Tryz.underlying178 rfl rfl Tryz.underlying9 cellsES cellsStr hd5 ok5
  have hk5 : AtS W 3 a5 := ⟨by simpa using World.var?_cell hg5 hv5 0, (hrows a5.block a5.off (by simp [MemPlace.row])).1⟩
  have ne2_3 : a2 ≠ a3 := by
    rintro rfl
    simp [MemPlace.row, List.nodup_append] at hnd
  have ne2_4 : a2 ≠ a4 := by
    rintro rfl
    simp [MemPlace.row, List.nodup_append] at hnd
  have ne2_5 : a2 ≠ a5 := by
    rintro rfl
    simp [MemPlace.row, List.nodup_append] at hnd
  have ne3_4 : a3 ≠ a4 := by
    rintro rfl
    simp [MemPlace.row, List.nodup_append] at hnd
  have ne3_5 : a3 ≠ a5 := by
    rintro rfl
    simp [MemPlace.row, List.nodup_append] at hnd
  have ne4_5 : a4 ≠ a5 := by
    rintro rfl
    simp [MemPlace.row, List.nodup_append] at hnd
  exact ⟨a1, a2, a3, a4, a5, hk1, hk2, hk3, hk4, hk5, ne2_3, ne2_4, ne2_5, ne2_3.symm, ne3_4, ne3_5, ne2_4.symm, ne3_4.symm, ne4_5, ne2_5.symm, ne3_5.symm, ne4_5.symm⟩

theorem env_of {W : World} (hL : laidMetH Tryz.prog laidAll W) (hS : W.ShapedOpen Tryz.prog) : ∃ G : Nat → Addr, Env G W := by
  have h' : laidMet Tryz.prog laidP W ∧ handlesMet Tryz.prog [("errors.errorType", Rows.laid_errors_errorType)] W := hL
  obtain ⟨hp, hh⟩ := h'
  have hu := utf8_of hp
  have hm := maxLen_of hS
  have he := handle_of rfl hh
  obtain ⟨a1, a2, a3, a4, a5, hk1, hk2, hk3, hk4, hk5, ne2_3, ne2_4, ne2_5, ne3_2, ne3_4, ne3_5, ne4_2, ne4_3, ne4_5, ne5_2, ne5_3, ne5_4⟩ := sents_of hp
  refine ⟨fun g => if g = 5 then a1 else if g = 0 then a2 else if g = 1 then a3 else if g = 2 then a4 else if g = 3 then a5 else default, ?_⟩
  exact ⟨he, hm, hu, ⟨hk1.1, hk1.2⟩, ⟨hk2.1, hk2.2⟩, ⟨hk3.1, hk3.2⟩, ⟨hk4.1, hk4.2⟩, ⟨hk5.1, hk5.2⟩, ne2_3, ne2_4, ne2_5, ne3_2, ne3_4, ne3_5, ne4_2, ne4_3, ne4_5, ne5_2, ne5_3, ne5_4⟩
end Go.Proofs.YtbocflglknkiaaaGreatDoor
