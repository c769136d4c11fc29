/-
  The document's Relax.
-/
import Derived.Test.YtppdiikjigacpaaDoorRelax
namespace Go.Proofs.YtppdiikjigacpaaDoor
open Go Go.RowKit

set_option maxRecDepth 100000 in
set_option maxHeartbeats 4000000 in
theorem rRelax_any (a : Option Addr) (ds : List (List Int)) (c : Nat) (w : World) (hD : Descs w a ds) (hd : ∀ d ∈ ds, d.length ≤ 100) (hn : ds.length ≤ 60) :
    Calls Tryd.prog 18 #[.slice a ds.length c] w (RetDescs (ds.map relD) w) := by
  obtain ⟨i0, hi, hz0, hz1, hz2⟩ := info_parts info_int
  obtain ⟨j0, hji, hjz0, hjz1, hjz2⟩ := info_parts info_desc
  have H := Lib.hid (And.intro hD hd)
  clear hD hd
  go_enter Tryd.func18, Tryd.ntmps18
  go_wp2
  go_loopw [3, 4] (fun v i wr => ∃ j : Nat, j ≤ ds.length ∧ i = .int .i64 j ∧ (∃ us : List Value, us.length = j ∧ wr.ownsRow w.heap.size 36 1 v us.length us ∧ RowsOf wr w.heap.size us ((ds.take j).map relD)) ∧ Below w.heap.size w wr) (fun _ i _ => ds.length - (intOf i).toNat)
  case atStart => exact ⟨0, Nat.zero_le _, rfl, ⟨[], rfl, World.ownsRow_made w #[] 0 (Nat.le_refl _) (by decide) rfl, by simp [RowsOf]⟩, (Below.refl _ _).alloc (Nat.le_refl _) _⟩
  case round =>
    obtain ⟨j, hj, rfl, ⟨us, hul, hown, hrows⟩, hB⟩ := hrel
    obtain ⟨wo, rfl⟩ : ∃ wo : World, wo = wr := ⟨_, rfl⟩
    by_cases hlt : j < ds.length
    · obtain ⟨b, off, fa, fc, d, rfl, hx2, hc, hr, _⟩ := (H.out.1.below hB).at_ j hlt
      have hdl := H.out.2 d (List.mem_of_getElem? hx2)
      have hmap : (ds.take (j + 1)).map relD = (ds.take j).map relD ++ [relD d] := by rw [List.take_add_one, hx2]; simp
      have hblt := cell_lt hc
      have HO := Lib.hid (And.intro hown (And.intro hrows (And.intro hB (And.intro hr (And.intro hc hmap)))))
      have hbn : Below wo.heap.size wo (wo.alloc (.cells #[.slice none 0 0] 36)) := (Below.refl _ _).alloc (Nat.le_refl _) _
      have hd0 := heap_alloc_eq wo (.cells #[.slice none 0 0] 36)
      have HD0 := Lib.hid (And.intro hbn hd0)
      clear hown hrows hx2 hr hmap hc hbn hd0
      have HUL := Lib.hid hul
      clear hul hB
      go_wp2
      go_loopw [6, 7] (fun i _ wr => ∃ (m : Nat) (v : Value), m ≤ d.length ∧ i = .int .i64 m ∧ wr.heap[wo.heap.size]? = some (.cells #[v] 36 (0, 0)) ∧ wr.ownsRow (wo.heap.size + 1) 3 1 v (relD (d.take m)).length ((relD (d.take m)).map (Value.int .i64)) ∧ Below wo.heap.size wo wr) (fun i _ _ => d.length - (intOf i).toNat)
      case atStart => exact ⟨0, _, Nat.zero_le _, rfl, HD0.out.2, World.ownsRow_nil _ _ _ _, HD0.out.1⟩
      case round =>
        obtain ⟨m, v, hm, rfl, hdb, hown, hB⟩ := hrel
        have hlen : (relD (d.take m)).length ≤ 100 := by rw [relD_length, List.length_take]; omega
        have hcL : wr.cell? ⟨b, off + j, none⟩ = some (.slice fa d.length fc) := (hB.cell hblt).trans HO.out.2.2.2.2.1
        have hcd := heap_cell hdb 0
        simp at hcd
        have hfd := heap_free hdb 0
        have hsz := heap_lt hdb
        have HDB := Lib.hid hdb
        clear hdb
        by_cases hlm : m < d.length
        · obtain ⟨b1, o1, rfl, k1⟩ := (HO.out.2.2.2.1.below hB).at_ m hlm
          obtain ⟨x, hx⟩ : ∃ x, d[m]?.getD 0 = x := ⟨_, rfl⟩
          have hx2 : d[m]? = some x := by rw [List.getElem?_eq_getElem hlm] at hx ⊢; simp only [Option.getD_some] at hx; rw [hx]
          rw [hx] at k1
          have hsn := relD_take_succ hx2
          obtain ⟨y, hy⟩ : ∃ y, relK x = y := ⟨_, rfl⟩
          rw [hy] at hsn
          have HSN := Lib.hid hsn
          have hyk : (x = 2 ∧ y = 1) ∨ (x = 3 ∧ y = 1) ∨ ((x == 2) = false ∧ (x == 3) = false ∧ y = x) := by
            rw [← hy]
            by_cases e2 : x = 2
            · subst e2; exact .inl ⟨rfl, by decide⟩
            · by_cases e3 : x = 3
              · subst e3; exact .inr (.inl ⟨rfl, by decide⟩)
              · refine .inr (.inr ⟨by simpa using e2, by simpa using e3, ?_⟩)
                unfold relK
                split
                · rename_i h
                  simp [isPtr] at h
                  omega
                · rfl
          clear hx hx2 hsn hy
          rcases hyk with ⟨rfl, rfl⟩ | ⟨rfl, rfl⟩ | ⟨g2, g3, rfl⟩
          all_goals
            go_wp2_with (at_builtin; refine wpList_append_own _ rfl _ _ 27 rfl (wo.heap.size + 1) 3 i0 (.int .i64 0) 1 8 Tryd.underlying27 hi hz0 hz1 hz2 rfl (by decide) _ _ _ rfl (hown.alloc _) ⟨wr.heap.size, 0, none⟩ 1 1 [_] rfl rfl (new_cell _ _ _) (one_ok _ rfl) (by unfold maxLen; omega) (by omega) (by simp; omega) ?_)
            intro v' w1 hown' hgrow _
            have hB1 := (hB.alloc hB.size (.cells _ 3)).grown hgrow (by have := hB.size; simp; omega) (fun k e => by have := (hown.lt k e).1; omega)
            have ho2 : w1.ownsRow (wo.heap.size + 1) 3 1 v' (relD (d.take (m + 1))).length ((relD (d.take (m + 1))).map (Value.int .i64)) := by
              rw [HSN.out]; simpa using hown'
            have hd1 := (hgrow.block wo.heap.size (by simp; omega) (fun e => by have := (hown.lt _ e.symm).1; omega)).trans (heap_alloc_lt HDB.out _)
            obtain ⟨a', c', rfl, _, _, _⟩ := owns_slice ho2
            have hd2 := heap_set hd1 0 (.slice a' (relD (d.take (m + 1))).length c')
            simp at hd2
            have ho3 := (Moved.of_set (S := fun q => q = wo.heap.size) w1 wo.heap.size 0 (.slice a' (relD (d.take (m + 1))).length c') rfl).owns ho2 (fun q hq e => by have := (ho2.lt q hq).1; omega)
            have hB2 := hB1.setCell (p := ⟨wo.heap.size, 0, none⟩) (Nat.le_refl _) (.slice a' (relD (d.take (m + 1))).length c')
            have hcd2 := heap_cell hd1 0
            simp at hcd2
            have hfd2 := heap_free hd1 0
            have HZ := Lib.hid (And.intro hd2 (And.intro ho3 hB2))
            clear hown' hgrow hown hB hlen hB1 ho2 hd1 hd2 ho3 hB2 hcd hfd
            go_wp2
            go_roundw
            case rel => exact ⟨m + 1, _, by omega, by go_num, HZ.out.1, HZ.out.2.1, HZ.out.2.2⟩
            case measure => simp [intOf]; omega
        · obtain rfl : m = d.length := by omega
          rw [take_all (Nat.le_refl _)] at hown hlen
          have hBs := HO.out.2.2.1.size
          have hrow2 := owns_le2 hown (B' := w.heap.size) (by omega)
          obtain ⟨af, cf, rfl, _, _, _⟩ := owns_slice hown
          have hownO := (Moved.of_below hB (fun _ => False)).owns HO.out.1 (fun _ _ e => e)
          have hrowsO := HO.out.2.1.below hB
          have hBw := HO.out.2.2.1.trans (hB.mono HO.out.2.2.1.size)
          have HX := Lib.hid (And.intro hrow2 hrowsO)
          clear hown hB hrow2 hrowsO
          go_wp2_with (at_builtin; refine wpList_append_own _ rfl _ _ 22 rfl w.heap.size 36 j0 (.agg #[.slice none 0 0]) 1 24 Tryd.underlying22 hji hjz0 hjz1 hjz2 rfl (by decide) _ _ _ rfl (hownO.alloc _) ⟨wr.heap.size, 0, none⟩ 1 1 [.slice af (relD d).length cf] rfl rfl (new_cell _ _ _) (one_ok _ rfl) (by have := HUL.out; unfold maxLen; omega) (by have := HUL.out; omega) (by have := hBw.size; simp; omega) ?_)
          intro v' w1 hown' hgrow _
          have hba : Below wr.heap.size wr (wr.alloc (.cells #[.slice af (relD d).length cf] 36)) := (Below.refl _ _).alloc (Nat.le_refl _) _
          have hB1 := (hBw.alloc hBw.size (.cells #[.slice af (relD d).length cf] 36)).grown hgrow (by have := hBw.size; simp; omega) (fun k e => (hownO.lt k e).1)
          have hr1 := ((HX.out.2.below hba).grown (hownO.alloc _) (by decide) hgrow).snoc (((Moved.of_below hba (fun _ => False)).owns HX.out.1 (fun _ _ e => e)).kept hgrow (owns_ne ((Moved.of_below hba (fun _ => False)).owns HX.out.1 (fun _ _ e => e)) (hownO.alloc _) (by decide)))
          rw [← HO.out.2.2.2.2.2] at hr1
          have ho2 : w1.ownsRow w.heap.size 36 1 v' (us ++ [Value.slice af (relD d).length cf]).length (us ++ [Value.slice af (relD d).length cf]) := by
            simpa using hown'
          have HR1 := Lib.hid (And.intro hr1 ho2)
          have HU2 : Hid ((us ++ [Value.slice af (relD d).length cf]).length = j + 1) := by refine Lib.hid ?_; rw [List.length_append, HUL.out]; rfl
          clear hr1 ho2 hown' hgrow hba hownO hBw
          go_wp2
          go_roundw
          case rel => exact ⟨j + 1, by omega, by go_num, ⟨_, HU2.out, HR1.out.2, HR1.out.1⟩, hB1⟩
          case measure => simp [intOf]; omega
    · obtain rfl : j = ds.length := by omega
      rw [List.take_length] at hrows
      obtain ⟨a2, c2, rfl, hD2⟩ := descs_of_rows hown hrows
      clear hown hrows
      go_wp2
      go_ret
      exact ⟨_, _, rfl, hB, hD2⟩
end Go.Proofs.YtppdiikjigacpaaDoor
