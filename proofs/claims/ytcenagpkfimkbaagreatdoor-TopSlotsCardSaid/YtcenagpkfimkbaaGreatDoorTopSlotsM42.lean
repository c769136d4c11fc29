/-
  Contracts of functions of the program, laid together.
-/
import Derived.Test.YtcenagpkfimkbaaGreatDoorTopSlotsM27
import Derived.Test.YtcenagpkfimkbaaGreatDoorRows
import Derived.Lib.SmallJoins
import Derived.Lib.LaidTab
namespace Go.Proofs.YtcenagpkfimkbaaGreatDoor
open Go Go.RowKit Go.ChangeShapes Go.WideShapes Go.ChangeAt Go.Joins

theorem gNow : Tryz.prog.globalNamed "kraal/plan.nowhere" = some 0 := by kernel_rfl
theorem gNowType : (Tryz.prog.globals[0]?).map (·.type) = some 277 := by kernel_rfl
theorem gTab : Tryz.prog.globalNamed "kraal/desc.what" = some 1 := by kernel_rfl
theorem gTabType : (Tryz.prog.globals[1]?).map (·.type) = some 288 := by kernel_rfl
theorem cellsA : Tryz.prog.cellsOf 288 = 4 := by kernel_rfl
theorem cellsI : Tryz.prog.cellsOf 3 = 1 := by kernel_rfl

theorem var_heap {P : Program} {w : World} {n : String} {g : Nat} {cs : Array Value} (hg : P.globalNamed n = some g) (h : w.var? P n = some cs) : ∃ t fr, w.heap[g]? = some (.cells cs t fr) := by
  simp only [World.var?, hg, Option.bind_some] at h
  split at h
  · rename_i c t fr hc
    simp at h
    subst h
    exact ⟨_, _, hc⟩
  · cases h

theorem tabs_come {W : World} (h : laidMetH Tryz.prog [("kraal/plan.nowhere", Rows.laid_kraal_plan_nowhere), ("kraal/desc.what", Rows.laid_kraal_desc_what)] W) :
    ∃ O0 O1, TabsP O0 O1 W (fun k => k = 0 ∨ k = 1) := by
  obtain ⟨ps, ⟨g, t, cs, fuel, p, q, hg, ht, hv, hd, ⟨g2, t2, cs2, fuel2, p2, q2, hg2, ht2, hv2, hd2, _, _⟩, _⟩, _⟩ := h
  obtain rfl := Option.some.inj (gNow.symm.trans hg)
  obtain rfl := Option.some.inj (gNowType.symm.trans ht)
  obtain rfl := Option.some.inj (gTab.symm.trans hg2)
  obtain rfl := Option.some.inj (gTabType.symm.trans ht2)
  have e2 : cs2.toList = [0, 1, 1, 1].map fun z => Value.int .i64 z := Lib.cells_of_tab Tryz.underlying288 Tryz.underlying3 cellsI cellsA hd2
  obtain ⟨y0, y1, n, hx, hl, h0, h1⟩ := trod_struct2 Tryz.underlying277 hd
  obtain ⟨z0, c0, f0, _⟩ := DataW.trod_int Tryz.underlying3 h0
  obtain ⟨z1, c1, f1, _⟩ := DataW.trod_int Tryz.underlying3 h1
  obtain ⟨tt, fr, hh⟩ := var_heap gNow hv
  obtain ⟨tt2, fr2, hh2⟩ := var_heap gTab hv2
  have ex := congrArg Prod.fst hx
  simp only [Rows.laid_kraal_plan_nowhere, f0, f1, DataW.agg.injEq, List.cons.injEq, DataW.lit.injEq, Lit.int.injEq, true_and, and_true] at ex
  obtain ⟨rfl, rfl⟩ := ex
  have n0 : cs[0]? = some (.int .i64 (-1)) := by
    have := congrArg (·[0]?) c0
    simpa [List.getElem?_take, List.getElem?_drop, cellsI] using this
  have n1 : cs[1]? = some (.int .i64 16) := by
    have := congrArg (·[0]?) c1
    simpa [List.getElem?_take, List.getElem?_drop, cellsI] using this
  refine ⟨_, _, hh, hh2, fun i hi => ?_, ⟨by rw [heap_cell hh]; exact n0, by rw [heap_cell hh]; exact n1⟩, fun k => Iff.rfl⟩
  rw [heap_cell hh2, ← Array.getElem?_toList, e2]
  match i, hi with
  | 0, _ => rfl
  | 1, _ => rfl
  | 2, _ => rfl
  | 3, _ => rfl
end Go.Proofs.YtcenagpkfimkbaaGreatDoor
