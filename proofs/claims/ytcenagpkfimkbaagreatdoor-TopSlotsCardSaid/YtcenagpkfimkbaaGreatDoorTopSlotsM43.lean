/-
  Contracts of functions of the program, laid together.
-/
import Derived.Test.YtcenagpkfimkbaaGreatDoorTopSlotsM39
import Derived.Test.YtcenagpkfimkbaaGreatDoorTopSlotsM41
import Derived.Test.YtcenagpkfimkbaaGreatDoorTopSlotsM42
import Derived.Deep.Strs
import Derived.IntWalk
namespace Go.Proofs.YtcenagpkfimkbaaGreatDoor
open Go Go.RowKit Go.ChangeShapes Go.WideShapes Go.ChangeAt Go.Joins Go.Deep

section
variable {H : Type} {enc : TypeId × Value → H} {P : Program} {w : World}
theorem open_structs_in {t e : TypeId} {fs : Array Field} {n : Nat} {v : Value} {y : DataW H × List MemPlace} (ht : P.underlying t = some (.slice e)) (he : P.underlying e = some (.struct fs)) (hone : oneCellFields P fs = true) (hC : P.cellsOf e = fs.size) (hpos : 0 < fs.size)
    (hf : DataW.trod enc P w 0 (fun _ => true) true n t [v] = some y) :
    ∃ (a : Option Addr) (len cap : Nat), v = .slice a len cap ∧ len ≤ cap ∧ cap ≤ maxLen ∧ (0 < len → ∃ b off, a = some ⟨b, off, none⟩) ∧
      ∀ b off, a = some ⟨b, off, none⟩ → ∀ i, i < len → ∀ (j : Nat) (f : Field), fs[j]? = some f → ∃ (u : Value) (y : DataW H × List MemPlace) (n : Nat), w.cell? ⟨b, off + (i * fs.size + j), none⟩ = some u ∧ DataW.trod enc P w 0 (fun _ => true) true n f.type [u] = some y := by
  rcases open_slice_fields ht he hone hC hf with ⟨hcs, _⟩ | ⟨x, l, c, m, D, Pl, hcs, _, hl, hm, hmm, _, hi⟩
  · simp at hcs
    subst hcs
    exact ⟨none, 0, 0, rfl, Nat.le_refl 0, Nat.zero_le _, fun h => absurd h (Nat.lt_irrefl 0), fun b off h => by cases h⟩
  · simp at hcs
    subst hcs
    have hmc : m = c := by simpa using hmm
    subst hmc
    have hadd := addr_add_none
    refine ⟨some x, l, m, rfl, hl, hm, fun hp => ?_, ?_⟩
    · obtain ⟨ys, n, _, _, _, hfld⟩ := hi 0 (by omega)
      obtain ⟨f0, hf0⟩ : ∃ f, fs[0]? = some f := ⟨_, Array.getElem?_eq_getElem hpos⟩
      obtain ⟨u, y, hc, _, _⟩ := hfld 0 f0 hf0
      obtain ⟨b, off, spot⟩ := x
      have hspot : spot = none := by simpa [Addr.add] using World.cell?_spot hc
      subst hspot
      exact ⟨b, off, rfl⟩
    · intro b off hx i hil j f hj
      cases hx
      obtain ⟨ys, n, _, _, _, hfld⟩ := hi i (by omega)
      obtain ⟨u, y, hc, _, ht'⟩ := hfld j f hj
      rw [hadd] at hc
      exact ⟨u, y, n, hc, ht'⟩
end
set_option maxRecDepth 100000 in
theorem descs_in {H : Type} {enc : TypeId × Value → H} {w : World} {n : Nat} {v : Value} {y : DataW H × List MemPlace} (h : DataW.trod enc Tryz.prog w 0 (fun _ => true) true n 22 [v] = some y) :
    ∃ (a : Option Addr) (ds : List (List Int)) (cap : Nat), v = .slice a ds.length cap ∧ Descs w a ds ∧ ds.length ≤ 9223372036854775807 := by
  obtain ⟨a, len, cap, rfl, hlc, hcm, hpos, hall⟩ := open_structs_in Tryz.underlying22 Tryz.underlying76 (by kernel_rfl) (by kernel_rfl) (by decide) h
  have key : ∀ b off, a = some ⟨b, off, none⟩ → ∀ i, i < len → ∃ (fa : Option Addr) (x : List Int) (c : Nat), w.cell? ⟨b, off + i, none⟩ = some (.slice fa x.length c) ∧ Reads .i64 w fa x ∧ (fa = none → x = [] ∧ c = 0) := by
    intro b off ha i hi
    obtain ⟨u, y, n, hc, ht⟩ := hall b off ha i hi 0 _ rfl
    obtain ⟨fa, x, c, rfl, hr, _, hn, _, _⟩ := trod_reads Tryz.underlying58 Tryz.underlying3 (by kernel_rfl) ht
    refine ⟨fa, x, c, ?_, hr, hn⟩
    rw [← hc]
    congr 1
    simp
  by_cases h0 : len = 0
  · subst h0
    exact ⟨a, [], cap, rfl, .inl rfl, by simp⟩
  · obtain ⟨b, off, rfl⟩ := hpos (by omega)
    have kb := key b off rfl
    refine ⟨some ⟨b, off, none⟩, (List.range len).map (fun i => if hi : i < len then Classical.choose (Classical.choose_spec (kb i hi)) else []), cap, by simp, .inr ⟨b, off, rfl, fun i hi => ?_⟩, by simp; unfold maxLen at hcm; omega⟩
    have hil : i < len := by simpa using hi
    obtain ⟨c, h1, h2, h3⟩ := Classical.choose_spec (Classical.choose_spec (kb i hil))
    have hx : ((List.range len).map (fun i => if hi : i < len then Classical.choose (Classical.choose_spec (kb i hi)) else [])).getD i [] = Classical.choose (Classical.choose_spec (kb i hil)) := by
      simp [hil]
    rw [hx]
    exact ⟨_, c, h1, h2, h3⟩
theorem cells_conf : Tryz.prog.cellsOf 24 = 3 := by kernel_rfl
theorem cells_descs : Tryz.prog.cellsOf 22 = 1 := by kernel_rfl
set_option maxRecDepth 100000 in
theorem config_comes {H : Type} {enc : TypeId × Value → H} {w : World} {r : Reach} {b0 : Nat} {v : Value} {d : DataW H} {p : List MemPlace}
    (hv : Value.okWide Tryz.prog w r b0 24 v) (h : DataW.Trod enc Tryz.prog w 0 (fun _ => true) true 24 v d p) :
    ∃ (n g : Int) (a : Option Addr) (ds : List (List Int)) (cap : Nat), v = .agg #[.int .i64 n, .int .i64 g, .slice a ds.length cap] ∧ Descs w a ds ∧ ds.length ≤ 9223372036854775807 := by
  obtain ⟨cs, rfl, hsz⟩ := okWide_struct Tryz.underlying24 hv
  obtain ⟨l⟩ := cs
  match l, hsz.trans cells_conf with
  | [c0, c1, c2], _ =>
    obtain ⟨fuel, hf⟩ := h
    obtain ⟨y0, y1, y2, m, _, _, h0, h1, h2⟩ := trod_struct3 Tryz.underlying24 hf
    simp only [cellsI, cells_descs, Value.cells, List.drop_zero, List.drop_succ_cons, List.take_succ_cons, List.take_zero, List.take_nil] at h0 h1 h2
    obtain ⟨n, e0, _, _⟩ := DataW.trod_int Tryz.underlying3 h0
    obtain ⟨g, e1, _, _⟩ := DataW.trod_int Tryz.underlying3 h1
    obtain ⟨a, ds, cap, rfl, hd, hl⟩ := descs_in h2
    simp at e0 e1
    subst e0 e1
    exact ⟨n, g, a, ds, cap, rfl, hd, hl⟩
set_option maxRecDepth 100000 in
theorem ops_come {H : Type} {enc : TypeId × Value → H} {w : World} {r : Reach} {b0 : Nat} {v : Value} {d : DataW H} {p : List MemPlace}
    (hv : Value.okWide Tryz.prog w r b0 25 v) (h : DataW.Trod enc Tryz.prog w 0 (fun _ => true) true 25 v d p) :
    ∃ (a : Option Addr) (ops : List OpN) (cap : Nat), v = .slice a ops.length cap ∧ OpsAt w a ops ∧ (∀ x ∈ ops, x.Ok) ∧ ops.length ≤ 9223372036854775807 := by
  obtain ⟨a, len, cap, rfl, _, hlc, hcm, hs, hc⟩ := open_structs Tryz.underlying25 Tryz.underlying36 (by kernel_rfl) (by kernel_rfl) (by decide) hv h
  have key : ∀ i, i < len → ∃ x : OpN, x.Ok ∧ ∀ b off, a = some ⟨b, off, none⟩ → w.cell? ⟨b, off + i * 4, none⟩ = some (.int .i64 x.k) ∧ w.cell? ⟨b, off + i * 4 + 1, none⟩ = some (.int .u64 x.a) ∧ w.cell? ⟨b, off + i * 4 + 2, none⟩ = some (.int .u64 x.b) ∧ w.cell? ⟨b, off + i * 4 + 3, none⟩ = some (.int .u64 x.c) := by
    intro i hi
    obtain ⟨b, off, rfl⟩ := hs (by omega)
    have h5 : ∀ j f, _ → _ := fun j f => hc b off rfl i hi j f
    obtain ⟨u0, y0, n0, q0, t0⟩ := h5 0 _ rfl
    obtain ⟨u1, y1, n1, q1, t1⟩ := h5 1 _ rfl
    obtain ⟨u2, y2, n2, q2, t2⟩ := h5 2 _ rfl
    obtain ⟨u3, y3, n3, q3, t3⟩ := h5 3 _ rfl
    obtain ⟨k, e0, _, _⟩ := DataW.trod_int Tryz.underlying3 t0
    obtain ⟨xa, e1, _, wa⟩ := DataW.trod_int Tryz.underlying34 t1
    obtain ⟨xb, e2, _, wb⟩ := DataW.trod_int Tryz.underlying34 t2
    obtain ⟨xc, e3, _, wc⟩ := DataW.trod_int Tryz.underlying34 t3
    simp at e0 e1 e2 e3
    subst e0 e1 e2 e3
    have ba := bounds_u64 wa
    have bb := bounds_u64 wb
    have bc := bounds_u64 wc
    refine ⟨⟨k, xa, xb, xc⟩, ⟨ba.1, by simp only; omega, bb.1, by simp only; omega, bc.1, by simp only; omega⟩, fun b' off' he => ?_⟩
    cases he
    exact ⟨q0, by rw [Nat.add_assoc]; exact q1, by rw [Nat.add_assoc]; exact q2, by rw [Nat.add_assoc]; exact q3⟩
  by_cases h0 : len = 0
  · subst h0
    exact ⟨a, [], cap, rfl, .inl rfl, by simp, by simp⟩
  · obtain ⟨b, off, rfl⟩ := hs (by omega)
    refine ⟨some ⟨b, off, none⟩, (List.range len).map (fun i => if hi : i < len then (key i hi).choose else ⟨0, 0, 0, 0⟩), cap, by simp, .inr ⟨b, off, rfl, fun j x hx => ?_⟩, fun x hx => ?_, by simp; unfold maxLen at hcm; omega⟩
    · have hj : j < len := by
        have := (List.getElem?_eq_some_iff.1 hx).1
        simpa using this
      rw [List.getElem?_map, List.getElem?_range hj, Option.map_some, dif_pos hj] at hx
      obtain rfl := Option.some.inj hx
      exact (key j hj).choose_spec.2 b off rfl
    · obtain ⟨i, hi, rfl⟩ := List.mem_map.1 hx
      have hi := List.mem_range.1 hi
      simp only [dif_pos hi]
      exact (key i hi).choose_spec.1

theorem tabs_come2 {W : World} (h : laidMetH Tryz.prog [("kraal/plan.nowhere", Rows.laid_kraal_plan_nowhere), ("kraal/desc.what", Rows.laid_kraal_desc_what)] W) :
    ∃ O0 O1, TabsP O0 O1 W (fun k => k = 0 ∨ k = 1) ∧ ∀ k i z, (k = 0 ∨ k = 1) → W.cell? ⟨k, i, none⟩ ≠ some (.int .u64 z) := by
  have hT := tabs_come h
  obtain ⟨ps, ⟨g, t, cs, fuel, p, q, hg, ht, hv, hd, ⟨g2, t2, cs2, fuel2, p2, q2, hg2, ht2, hv2, hd2, _, _⟩, _⟩, _⟩ := h
  obtain rfl := Option.some.inj (gNow.symm.trans hg)
  obtain rfl := Option.some.inj (gNowType.symm.trans ht)
  obtain rfl := Option.some.inj (gTab.symm.trans hg2)
  obtain rfl := Option.some.inj (gTabType.symm.trans ht2)
  have e2 : cs2.toList = [0, 1, 1, 1].map fun z => Value.int .i64 z := Lib.cells_of_tab Tryz.underlying288 Tryz.underlying3 cellsI cellsA hd2
  obtain ⟨y0, y1, n, hx, hl, h0, h1⟩ := trod_struct2 Tryz.underlying277 hd
  obtain ⟨z0, c0, f0, _⟩ := DataW.trod_int Tryz.underlying3 h0
  obtain ⟨z1, c1, f1, _⟩ := DataW.trod_int Tryz.underlying3 h1
  obtain ⟨tt, fr, hh⟩ := var_heap gNow hv
  obtain ⟨tt2, fr2, hh2⟩ := var_heap gTab hv2
  have hl : cs.toList.length = 2 := hl.trans (by kernel_rfl)
  obtain ⟨O0, O1, hT⟩ := hT
  refine ⟨O0, O1, hT, fun k i z hk e => ?_⟩
  rcases hk with rfl | rfl
  · rw [heap_cell hh, ← Array.getElem?_toList] at e
    simp only [cellsI] at c0 c1
    match hcs : cs.toList, hl with
    | [u0, u1], _ =>
      rw [hcs] at e c0 c1
      simp at c0 c1
      subst c0 c1
      match i, e with
      | 0, e => simp at e
      | 1, e => simp at e
      | i + 2, e => simp at e
  · rw [heap_cell hh2, ← Array.getElem?_toList, e2] at e
    match i, e with
    | 0, e => simp at e
    | 1, e => simp at e
    | 2, e => simp at e
    | 3, e => simp at e
    | i + 4, e => simp at e
theorem ops_apart {W : World} {a : Option Addr} {ops : List OpN} (hU : ∀ k i z, (k = 0 ∨ k = 1) → W.cell? ⟨k, i, none⟩ ≠ some (.int .u64 z)) (hO : OpsAt W a ops) (hne : ops ≠ []) (q : Addr) (hq : a = some q) : ¬ (q.block = 0 ∨ q.block = 1) := by
  rcases hO with h | ⟨b, off, rfl, hc⟩
  · exact absurd h hne
  · obtain rfl := Option.some.inj hq
    obtain ⟨x, r, rfl⟩ := List.exists_cons_of_ne_nil hne
    intro hk
    exact hU _ _ _ hk (hc 0 x rfl).2.1
end Go.Proofs.YtcenagpkfimkbaaGreatDoor
