/-
  The law DescKinds, walked.
-/
import Derived.Test.YtppdiikjigacpaaDoorRKinds
import Derived.Test.YtppdiikjigacpaaDoorAppR
namespace Go.Proofs.YtppdiikjigacpaaDoor
open Go Go.RowKit

set_option maxHeartbeats 1000000 in
theorem fixed_any (w : World) (hT : Tab w) : Calls Tryd.prog 7 #[] w fun e w' => e = .returned (.bool true) ∧ Below w.heap.size w w' := by
  have hbo : Below w.heap.size w ((w.alloc (.cells #[.int .i64 0, .int .i64 1] 3)).alloc (.cells #[.slice (some ⟨w.heap.size, 0, none⟩) 2 2] 36)) := ((Below.refl _ _).alloc (Nat.le_refl _) _).alloc (by simp) _
  have hc1 := heap_alloc_lt (heap_alloc_eq w (.cells #[.int .i64 0, .int .i64 1] 3)) (.cells #[.slice (some ⟨w.heap.size, 0, none⟩) 2 2] 36)
  have hc2 := heap_alloc_eq (w.alloc (.cells #[.int .i64 0, .int .i64 1] 3)) (.cells #[.slice (some ⟨w.heap.size, 0, none⟩) 2 2] 36)
  rw [show (w.alloc (.cells #[.int .i64 0, .int .i64 1] 3)).heap.size = w.heap.size + 1 by simp] at hc2
  have hk : Calls Tryd.prog 8 #[.slice (some ⟨w.heap.size + 1, 0, none⟩) 1 1, .agg #[.bool false, .int .i64 0, .int .i64 0, .int .i64 2]] ((w.alloc (.cells #[.int .i64 0, .int .i64 1] 3)).alloc (.cells #[.slice (some ⟨w.heap.size, 0, none⟩) 2 2] 36)) (RetKinds [0, 1] 0 ((w.alloc (.cells #[.int .i64 0, .int .i64 1] 3)).alloc (.cells #[.slice (some ⟨w.heap.size, 0, none⟩) 2 2] 36))) := by
    have := Kinds_any (some ⟨w.heap.size + 1, 0, none⟩) [[0, 1]] 1 false 0 0 2 _ (hT.below hT.lt hbo) (.inr ⟨_, _, rfl, fun i hi => ?_⟩) (by simp) (by simp)
    · rw [show knE [[0, 1]] false 0 0 2 = 0 by decide, show knL [[0, 1]] false 0 0 2 = [0, 1] by decide] at this
      exact this
    · simp at hi
      subst hi
      refine ⟨some ⟨w.heap.size, 0, none⟩, 2, by rw [heap_cell hc2]; rfl, .inr ⟨_, _, rfl, fun q hq => ?_⟩, by simp⟩
      rw [heap_cell hc1, Nat.zero_add]
      match q, hq with
      | 0, _ => rfl
      | 1, _ => rfl
  have HB := Lib.hid hbo
  clear hbo hc1 hc2 hT
  go_enter Tryd.func7, Tryd.ntmps7
  go_wp2_with fail
  refine hk.mono ?_
  rintro e w1 ⟨v, rfl, hb1, ho⟩
  obtain ⟨a1, c1, rfl, hr, _⟩ := owns_reads ho
  clear ho hk
  have hbn : Below w1.heap.size w1 (w1.alloc (.cells #[.int .i64 0, .int .i64 1] 3)) := (Below.refl _ _).alloc (Nat.le_refl _) _
  have hs : Calls Tryd.prog 10 #[.slice a1 2 c1, .slice (some ⟨w1.heap.size, 0, none⟩) 2 2] (w1.alloc (.cells #[.int .i64 0, .int .i64 1] 3)) fun e w' => e = .returned (.bool true) ∧ Below (w1.alloc (.cells #[.int .i64 0, .int .i64 1] 3)).heap.size (w1.alloc (.cells #[.int .i64 0, .int .i64 1] 3)) w' := by
    have := SameI_any a1 (some ⟨w1.heap.size, 0, none⟩) c1 2 [0, 1] [0, 1] (w1.alloc (.cells #[.int .i64 0, .int .i64 1] 3)) (hr.below hbn) (.inr ⟨_, _, rfl, fun q hq => ?_⟩) (by decide)
    · simpa using this
    · rw [heap_cell (heap_alloc_eq _ _), Nat.zero_add]
      match q, hq with
      | 0, _ => rfl
      | 1, _ => rfl
  have HB1 := Lib.hid ((HB.out.trans (hb1.mono HB.out.size)).trans (hbn.mono (HB.out.trans (hb1.mono HB.out.size)).size))
  clear hb1 hbn hr
  go_wp2_with fail
  refine hs.mono ?_
  rintro e w2 ⟨rfl, hb2⟩
  go_wp2
  go_ret
  exact ⟨rfl, HB1.out.trans (hb2.mono HB1.out.size)⟩

set_option maxRecDepth 100000 in
set_option maxHeartbeats 4000000 in
theorem DescKinds_any (a : Option Addr) (ds : List (List Int)) (c : Nat) (arr : Bool) (k t n : Int) (w : World) (hT : Tab w) (hD : Descs w a ds) (hn : ds.length ≤ 9223372036854775807) :
    Calls Tryd.prog 3 #[.slice a ds.length c, .agg #[.bool arr, .int .i64 k, .int .i64 t, .int .i64 n]] w fun e w' => e = .returned (.bool true) ∧ Below w.heap.size w w' := by
  obtain ⟨W, hW⟩ : ∃ W, W = w.alloc (.cells #[.bool arr, .int .i64 k, .int .i64 t, .int .i64 n] 24) := ⟨_, rfl⟩
  have hbo : Below w.heap.size w W := by rw [hW]; exact (Below.refl _ _).alloc (Nat.le_refl _) _
  have hO : W.heap[w.heap.size]? = some (.cells #[.bool arr, .int .i64 k, .int .i64 t, .int .i64 n] 24 (0, 0)) := by rw [hW]; exact heap_alloc_eq _ _
  have HW := Lib.hid hW
  clear hW
  have hg := Great_any a ds c W (hD.below hbo) hn
  obtain ⟨i0, hi0, hz0, hz1, hz2⟩ := info_parts info_int
  cases hgr : greatB ds
  · obtain ⟨q1, q2⟩ := greatB_false hgr
    rw [hgr] at hg
    have HQ := Lib.hid q2
    clear q2 hgr
    obtain ⟨L, hL⟩ : ∃ q, knL ds arr k t n = q := ⟨_, rfl⟩
    obtain ⟨E, hE⟩ : ∃ q, knE ds arr k t n = q := ⟨_, rfl⟩
    have hLl : L.length ≤ 4000 := by rw [← hL]; exact knL_length HQ.out
    have HL := Lib.hid (And.intro hL hE)
    have H0 := Lib.hid (And.intro hT (And.intro hD (And.intro hbo hO)))
    clear hL hE hT hD hbo hO
    have e1 : (E != E) = false := by simp
    go_enter Tryd.func3, Tryd.ntmps3
    go_wp2_with fail
    rw [← HW.out]
    refine hg.mono ?_
    rintro e w1 ⟨rfl, hb⟩
    have hB1 := H0.out.2.2.1.trans (hb.mono H0.out.2.2.1.size)
    have H1 := Lib.hid (And.intro (H0.out.1.below H0.out.1.lt hB1) (And.intro (H0.out.2.1.below hB1) (And.intro hB1 (heap_below hb H0.out.2.2.2 (heap_lt H0.out.2.2.2)))))
    clear hg hb hB1
    have a0 := heap_cell H1.out.2.2.2 0
    have a1 := heap_cell H1.out.2.2.2 1
    have a2 := heap_cell H1.out.2.2.2 2
    have a3 := heap_cell H1.out.2.2.2 3
    simp at a0 a1 a2 a3
    have hk := Kinds_any a ds c arr k t n w1 H1.out.1 H1.out.2.1 HQ.out hn
    rw [HL.out.1, HL.out.2] at hk
    go_wp2_with fail
    refine hk.mono ?_
    rintro e w2 ⟨v, rfl, hb2, ho2⟩
    have HO2 := Lib.hid ho2
    have H2 := Lib.hid (And.intro (H1.out.2.1.below hb2) (heap_below hb2 H1.out.2.2.2 (heap_lt H1.out.2.2.2)))
    have HB2 := Lib.hid hb2
    obtain ⟨ak, ck, rfl, hrk, hqk, _⟩ := owns_reads ho2
    have HR2 := Lib.hid (And.intro hrk hqk)
    clear hk hb2 ho2 hrk hqk a0 a1 a2 a3
    have a0 := heap_cell H2.out.2 0
    have a1 := heap_cell H2.out.2 1
    have a2 := heap_cell H2.out.2 2
    have a3 := heap_cell H2.out.2 3
    simp at a0 a1 a2 a3
    have hk := rKinds_any a ds c arr k t n w2 H2.out.1
    rw [HL.out.1, HL.out.2] at hk
    go_wp2_with fail
    refine hk.mono ?_
    rintro e w3 ⟨am, cm, rfl, hb3, hr3, hn3⟩
    have hs := SameI_any ak am ck cm L L w3 (HR2.out.1.below hb3) hr3 (by omega)
    rw [show decide (L = L) = true by simp] at hs
    have H3 := Lib.hid (And.intro (heap_below hb3 H2.out.2 (heap_lt H2.out.2)) (And.intro hr3 (HB2.out.trans (hb3.mono HB2.out.size))))
    have HB3 := Lib.hid hb3
    clear hk hb3 hr3 a0 a1 a2 a3
    go_wp2_with fail
    refine hs.mono ?_
    rintro e w4 ⟨rfl, hb4⟩
    have hb24 := HB3.out.trans (hb4.mono HB3.out.size)
    have H4 := Lib.hid (And.intro (heap_below hb4 H3.out.1 (heap_lt H3.out.1)) (And.intro (H3.out.2.1.below hb4) (And.intro (H3.out.2.2.trans (hb4.mono H3.out.2.2.size)) ((Moved.of_below hb24 (fun _ => False)).owns HO2.out (fun _ _ e => e)))))
    have HS4 := Lib.hid hb24.size
    clear hs hb4 hb24
    go_wp2_with (at_builtin; refine wpList_append_reads rfl _ _ 27 rfl w4.heap.size 3 i0 (.int .i64 0) 8 Tryd.underlying27 hi0 hz0 hz1 hz2 rfl _ _ _ rfl (World.ownsRow_made w4 #[] 0 (Nat.le_refl _) (by decide) rfl) am L cm rfl (H4.out.2.1.below ((Below.refl _ _).alloc (Nat.le_refl _) _)) hn3 (by unfold maxLen; omega) (by omega) (by simp) ?_)
    intro v6 w6 hown hgrow _
    have hb : Below w4.heap.size w4 w6 := ((Below.refl w4.heap.size w4).alloc (Nat.le_refl _) (.cells #[] 3)).grown hgrow (by simp) (fun k e => by simp [Value.ownBlock] at e; omega)
    have ho6 : w6.ownsRow w4.heap.size 3 1 v6 L.length (L.map (Value.int .i64)) := by simpa using hown
    obtain ⟨aw, cw, rfl, hrw, hqw, _⟩ := owns_reads ho6
    have hown6 := (Moved.of_below hb (fun _ => False)).owns H4.out.2.2.2 (fun _ _ e => e)
    have hB6 := H4.out.2.2.1.trans (hb.mono H4.out.2.2.1.size)
    have H6 := Lib.hid (And.intro hrw (And.intro hown6 (And.intro hB6 hqw)))
    clear hown hgrow hb ho6 hrw hqw hown6 hB6
    go_wp2
    go_loopw [42, 10] (fun i _ wr => ∃ j : Nat, j ≤ L.length ∧ i = .int .i64 j ∧ (∃ cur : List Int, cur.length = L.length ∧ wr.ownsRow w1.heap.size 3 1 (.slice ak L.length ck) L.length (cur.map (Value.int .i64))) ∧ Reads .i64 wr aw L ∧ Below w1.heap.size w1 wr) (fun i _ _ => L.length - (intOf i).toNat)
    case atStart => exact ⟨0, Nat.zero_le _, rfl, ⟨L, rfl, H6.out.2.1⟩, H6.out.1, H6.out.2.2.1⟩
    case round =>
      obtain ⟨j, hj, rfl, ⟨cur, hcl, hown⟩, hrw, hB⟩ := hrel
      by_cases hlt : j < L.length
      · obtain ⟨g, cap, cu, hsv, hBg, hgg⟩ := own_shape hown (by omega)
        simp only [Value.slice.injEq] at hsv
        obtain ⟨rfl, _, rfl⟩ := hsv
        have l1 := hown.cellAt (g := g) j (by omega)
        have l2 := hown.frozenAt (g := g) j
        rw [List.getElem?_map, List.getElem?_eq_getElem (by omega), Option.map_some] at l1
        have i1 : (j : Int) < (L.length : Int) := by omega
        have HW2 : Hid (∀ z : Int, (wr.setCell ⟨g, j, none⟩ (.int .i64 z)).ownsRow w1.heap.size 3 1 (.slice (some ⟨g, 0, none⟩) L.length ck) L.length ((cur.set j z).map (Value.int .i64))) := by
          refine Lib.hid fun z => ?_
          have := own_set (k := .i64) (xs := cur) (by rw [hcl]; exact hown) j z (by omega)
          rw [hcl] at this
          exact this
        have HRW : Hid (∀ z : Int, Reads .i64 (wr.setCell ⟨g, j, none⟩ (.int .i64 z)) aw L) := by
          refine Lib.hid fun z => hrw.grown (grown_set wr g j _) (fun q e => ?_)
          have h7 := (H6.out.2.2.2 q e).1
          have h8 := (HR2.out.2 _ rfl).2
          have h9 := HS4.out
          intro e9
          rw [e9] at h7
          exact absurd h8 (by simp; omega)
        have HBW : Hid (∀ z : Int, Below w1.heap.size w1 (wr.setCell ⟨g, j, none⟩ (.int .i64 z))) := Lib.hid fun z => hB.setCell hBg _
        obtain ⟨x, hx⟩ : ∃ x, cur[j]'(by omega) = x := ⟨_, rfl⟩
        rw [hx] at l1
        have HCL : Hid (∀ z, (cur.set j z).length = L.length) := Lib.hid fun z => by rw [List.length_set]; exact hcl
        clear hx hgg hown hrw hB hcl
        go_wp2
        go_roundw
        case rel => exact ⟨j + 1, by omega, by go_num, ⟨_, HCL.out _, HW2.out _⟩, HRW.out _, HBW.out _⟩
        case measure => simp [intOf]; omega
      · obtain rfl : j = L.length := by omega
        have hO7 := heap_below hB H1.out.2.2.2 (heap_lt H1.out.2.2.2)
        have hk := Kinds_any a ds c arr k t n wr (H1.out.1.below H1.out.1.lt hB) (H1.out.2.1.below hB) HQ.out hn
        rw [HL.out.1, HL.out.2] at hk
        have H7 := Lib.hid (And.intro hrw (And.intro (H1.out.2.2.1.trans (hB.mono H1.out.2.2.1.size)) (H1.out.1.below H1.out.1.lt hB)))
        clear hown hrw hB hcl
        have a0 := heap_cell hO7 0
        have a1 := heap_cell hO7 1
        have a2 := heap_cell hO7 2
        have a3 := heap_cell hO7 3
        simp at a0 a1 a2 a3
        go_wp2_with fail
        refine hk.mono ?_
        rintro e w8 ⟨v8, rfl, hb8, ho8⟩
        obtain ⟨a8, c8, rfl, hr8, _⟩ := owns_reads ho8
        have H8 := Lib.hid (And.intro (H7.out.1.below hb8) (And.intro (H7.out.2.1.trans (hb8.mono H7.out.2.1.size)) (And.intro (H7.out.2.2.below H7.out.2.2.lt hb8) hr8)))
        clear hk hb8 ho8 hr8 a0 a1 a2 a3 hO7
        go_wp2_with fail
        refine (fixed_any _ H8.out.2.2.1).mono ?_
        rintro e w9 ⟨rfl, hb9⟩
        have hs := SameI_any a8 aw c8 cw L L w9 (H8.out.2.2.2.below hb9) (H8.out.1.below hb9) (by omega)
        rw [show decide (L = L) = true by simp] at hs
        have H9 := Lib.hid (H8.out.2.1.trans (hb9.mono H8.out.2.1.size))
        clear hb9
        go_wp2_with fail
        refine hs.mono ?_
        rintro e w10 ⟨rfl, hb10⟩
        go_wp2
        go_ret
        exact ⟨rfl, H9.out.trans (hb10.mono H9.out.size)⟩
  · rw [hgr] at hg
    have H0 := Lib.hid (And.intro hT hbo)
    clear hgr hT hD hbo hO
    go_enter Tryd.func3, Tryd.ntmps3
    go_wp2_with fail
    rw [← HW.out]
    refine hg.mono ?_
    rintro e w1 ⟨rfl, hb⟩
    have hB1 := H0.out.2.trans (hb.mono H0.out.2.size)
    have H1 := Lib.hid (And.intro (H0.out.1.below H0.out.1.lt hB1) hB1)
    clear hg hb hB1
    go_wp2_with fail
    refine (fixed_any _ H1.out.1).mono ?_
    rintro e w9 ⟨rfl, hb9⟩
    go_wp2
    go_ret
    exact ⟨rfl, H1.out.2.trans (hb9.mono H1.out.2.size)⟩
end Go.Proofs.YtppdiikjigacpaaDoor
