/-
  walk.One without a memory; the chapter's example.
-/
import Derived.Test.YtojcdljpgginjaaDoorWOne
import Derived.Test.YtojcdljpgginjaaDoorPut
namespace Go.Proofs.YtojcdljpgginjaaDoor
open Go Go.RowKit

set_option maxRecDepth 100000 in
set_option maxHeartbeats 2000000 in
theorem OneNil_any (at_ : Int) (v : Value) (w : World) :
    Calls Tryd.prog 18 #[.pointer none, .int .i64 at_, v] w fun e w' => e = .returned (.tuple #[.agg #[.int .i64 0, .int .i64 0, .bool false, .int .i64 0, .int .i64 0, .int .i64 0, .slice none 0 0, .slice none 0 0], .int .i64 1]) ∧ Below w.heap.size w w' := by
  obtain ⟨W, hW⟩ : ∃ W, W = (w.alloc (.cells #[.int .i64 0, .int .i64 0, .bool false, .int .i64 0, .int .i64 0, .int .i64 0, .slice none 0 0, .slice none 0 0] 53)).alloc (.cells #[.int .i64 0, .int .i64 0, .bool false, .int .i64 0, .int .i64 0, .int .i64 0, .slice none 0 0, .slice none 0 0] 53) := ⟨_, rfl⟩
  have hbo : Below w.heap.size w W := by rw [hW]; exact ((Below.refl _ _).alloc (Nat.le_refl _) _).alloc (by simp) _
  have hO1 : W.heap[w.heap.size]? = some (.cells #[.int .i64 0, .int .i64 0, .bool false, .int .i64 0, .int .i64 0, .int .i64 0, .slice none 0 0, .slice none 0 0] 53 (0, 0)) := by
    rw [hW]; exact heap_alloc_lt (heap_alloc_eq _ _) _
  have hO2 : W.heap[w.heap.size + 1]? = some (.cells #[.int .i64 0, .int .i64 0, .bool false, .int .i64 0, .int .i64 0, .int .i64 0, .slice none 0 0, .slice none 0 0] 53 (0, 0)) := by
    rw [hW]
    have := heap_alloc_eq (w.alloc (.cells #[.int .i64 0, .int .i64 0, .bool false, .int .i64 0, .int .i64 0, .int .i64 0, .slice none 0 0, .slice none 0 0] 53)) (.cells #[.int .i64 0, .int .i64 0, .bool false, .int .i64 0, .int .i64 0, .int .i64 0, .slice none 0 0, .slice none 0 0] 53)
    rw [show (w.alloc (.cells #[.int .i64 0, .int .i64 0, .bool false, .int .i64 0, .int .i64 0, .int .i64 0, .slice none 0 0, .slice none 0 0] 53)).heap.size = w.heap.size + 1 by simp] at this
    exact this
  have HW := Lib.hid hW
  have H0 := Lib.hid (And.intro hO1 (And.intro hO2 hbo))
  clear hW hbo hO1 hO2
  go_enter Tryd.func18, Tryd.ntmps18
  go_wp2_with fail
  rw [← HW.out]
  have q0 := heap_cell H0.out.1 0
  have q1 := heap_cell H0.out.1 1
  have q2 := heap_cell H0.out.1 2
  have q3 := heap_cell H0.out.1 3
  have q4 := heap_cell H0.out.1 4
  have q5 := heap_cell H0.out.1 5
  have q6 := heap_cell H0.out.1 6
  have q7 := heap_cell H0.out.1 7
  simp at q0 q1 q2 q3 q4 q5 q6 q7
  have f0 := heap_free H0.out.1 0
  have f1 := heap_free H0.out.1 1
  have f2 := heap_free H0.out.1 2
  have f3 := heap_free H0.out.1 3
  have f4 := heap_free H0.out.1 4
  have f5 := heap_free H0.out.1 5
  have f6 := heap_free H0.out.1 6
  have f7 := heap_free H0.out.1 7
  have o0 := heap_cell H0.out.2.1 0
  have o1 := heap_cell H0.out.2.1 1
  have o2 := heap_cell H0.out.2.1 2
  have o3 := heap_cell H0.out.2.1 3
  have o4 := heap_cell H0.out.2.1 4
  have o5 := heap_cell H0.out.2.1 5
  have o6 := heap_cell H0.out.2.1 6
  have o7 := heap_cell H0.out.2.1 7
  simp at o0 o1 o2 o3 o4 o5 o6 o7
  go_wp2
  refine bodyPost_ret (v := .tuple #[.agg #[.int .i64 0, .int .i64 0, .bool false, .int .i64 0, .int .i64 0, .int .i64 0, .slice none 0 0, .slice none 0 0], .int .i64 1]) (by simp [results, Tryd.results18, go_sem, q0, q1, q2, q3, q4, q5, q6, q7]) rfl ⟨rfl, ?_⟩
  exact H0.out.2.2

theorem puW : puE (List.replicate 10 0) 4 3 false 0 0 2 = 0 ∧ puL (List.replicate 10 0) 4 3 false 0 0 2 = [0, 0, 0, 0, 131073, 0, 0, 0, 0, 0] := by decide
theorem onW : onE [0, 0, 0, 0, 131073, 0, 0, 0, 0, 0] [[0, 1]] 5 = 0 ∧ onK [0, 0, 0, 0, 131073, 0, 0, 0, 0, 0] [[0, 1]] 5 = [0, 1] ∧ onV [0, 0, 0, 0, 131073, 0, 0, 0, 0, 0] [[0, 1]] 5 = [0, 0] ∧ onA [0, 0, 0, 0, 131073, 0, 0, 0, 0, 0] [[0, 1]] 5 = false ∧
    gK (onX [0, 0, 0, 0, 131073, 0, 0, 0, 0, 0] 5) = 0 ∧ gT (onX [0, 0, 0, 0, 131073, 0, 0, 0, 0, 0] 5) = 0 ∧ gN (onX [0, 0, 0, 0, 131073, 0, 0, 0, 0, 0] 5) = 2 ∧ (∀ v, onI [0, 0, 0, 0, 131073, 0, 0, 0, 0, 0] [[0, 1]] 5 v = v) := by
  refine ⟨by decide, by decide, by decide, by decide, by decide, by decide, by decide, fun v => ?_⟩
  rw [onI, if_pos (by decide)]

set_option maxRecDepth 100000 in
set_option maxHeartbeats 4000000 in
theorem wfixed_any (w : World) (hT : Tab w) : Calls Tryd.prog 6 #[] w fun e w' => e = .returned (.bool true) ∧ Below w.heap.size w w' := by
  have hN := wNew_any 10 w (by decide)
  have HT := Lib.hid hT
  clear hT
  go_enter Tryd.func6, Tryd.ntmps6
  go_wp2_with fail
  refine hN.mono ?_
  rintro e w1 ⟨rfl, hb1, hM1⟩
  have hbo : Below w1.heap.size w1 ((w1.alloc (.cells #[.int .i64 0, .int .i64 1] 3)).alloc (.cells #[.slice (some ⟨w1.heap.size, 0, none⟩) 2 2] 50)) := ((Below.refl _ _).alloc (Nat.le_refl _) _).alloc (by simp) _
  have hc1 := heap_alloc_lt (heap_alloc_eq w1 (.cells #[.int .i64 0, .int .i64 1] 3)) (.cells #[.slice (some ⟨w1.heap.size, 0, none⟩) 2 2] 50)
  have hc2 := heap_alloc_eq (w1.alloc (.cells #[.int .i64 0, .int .i64 1] 3)) (.cells #[.slice (some ⟨w1.heap.size, 0, none⟩) 2 2] 50)
  rw [show (w1.alloc (.cells #[.int .i64 0, .int .i64 1] 3)).heap.size = w1.heap.size + 1 by simp] at hc2
  have hB2 := hb1.trans (hbo.mono hb1.size)
  have hM2 := hM1.later hbo
  have hT2 := HT.out.below HT.out.lt hB2
  have hDe : Descs ((w1.alloc (.cells #[.int .i64 0, .int .i64 1] 3)).alloc (.cells #[.slice (some ⟨w1.heap.size, 0, none⟩) 2 2] 50)) (some ⟨w1.heap.size + 1, 0, none⟩) [[0, 1]] := by
    refine .inr ⟨_, _, rfl, fun i hi => ?_⟩
    simp at hi
    subst hi
    refine ⟨some ⟨w1.heap.size, 0, none⟩, 2, by rw [heap_cell hc2]; rfl, .inr ⟨_, _, rfl, fun q hq => ?_⟩, by simp⟩
    rw [heap_cell hc1, Nat.zero_add]
    match q, hq with
    | 0, _ => rfl
    | 1, _ => rfl
  have hp := Put_any (w.heap.size + 1) w.heap.size (List.replicate 10 0) 4 3 false 0 0 2 _ hT2 hM2
  rw [puW.1, puW.2] at hp
  have hlt1 : w.heap.size < w1.heap.size := heap_lt hM1.2.1
  have H2 := Lib.hid (And.intro hB2 (And.intro hT2 hDe))
  have HTl : Hid (0 < w.heap.size) := Lib.hid HT.out.lt
  clear hb1 hM1 hbo hc1 hc2 hB2 hM2 hT2 hDe hN
  go_wp2_with fail
  refine hp.mono ?_
  rintro e w3 ⟨rfl, hg3, hM3⟩
  have hbw : Below (w.heap.size) ((w1.alloc (.cells #[.int .i64 0, .int .i64 1] 3)).alloc (.cells #[.slice (some ⟨w1.heap.size, 0, none⟩) 2 2] 50)) w3 := ⟨hg3.os, hg3.tape, hg3.output, hg3.size, fun k hk => hg3.block k (by have := H2.out.1.size; omega) (fun e => by cases e; omega)⟩
  have hT3 := H2.out.2.1.below HTl.out hbw
  have hm3 := Moved.of_grown hg3 (S := fun q => q = w.heap.size) (fun k e => by cases e; rfl)
  have hD3 : Descs w3 (some ⟨w1.heap.size + 1, 0, none⟩) [[0, 1]] := by
    rcases H2.out.2.2 with h | ⟨bq, oq, hq, hc⟩
    · cases h
    · cases hq
      refine .inr ⟨_, _, rfl, fun i hi => ?_⟩
      obtain ⟨fa, c, h1, h2, h3⟩ := hc i hi
      have hfa : ∀ q, fa = some q → ¬ q.block = w.heap.size := by
        intro q hq
        simp at hi
        subst hi
        have h9 := heap_alloc_eq (w1.alloc (.cells #[.int .i64 0, .int .i64 1] 3)) (.cells #[.slice (some ⟨w1.heap.size, 0, none⟩) 2 2] 50)
        rw [show (w1.alloc (.cells #[.int .i64 0, .int .i64 1] 3)).heap.size = w1.heap.size + 1 by simp] at h9
        rw [heap_cell h9] at h1
        simp at h1
        rw [← h1.1] at hq
        cases hq
        show ¬ w1.heap.size = w.heap.size
        omega
      exact ⟨fa, c, hm3.cell h1 (show ¬ w1.heap.size + 1 = w.heap.size by omega), hm3.reads h2 hfa, h3⟩
  have hB3 := H2.out.1.grown hg3 H2.out.1.size (fun k e => by cases e; omega)
  have ho := One_any (w.heap.size + 1) w.heap.size [0, 0, 0, 0, 131073, 0, 0, 0, 0, 0] 5 (some ⟨w1.heap.size + 1, 0, none⟩) [[0, 1]] 1 w3 hT3 hM3 hD3 (by decide) (by decide) (by decide) (by decide)
  have H3 := Lib.hid hB3
  clear hp hg3 hM3 hbw hT3 hm3 hD3 hB3
  go_wp2_with fail
  refine ho.mono ?_
  rintro e w4 ⟨y1, y2, c1, c2, rfl, hb4, _, hr4, _, _⟩
  rw [onW.1, onW.2.1, onW.2.2.1, onW.2.2.2.1, onW.2.2.2.2.1, onW.2.2.2.2.2.1, onW.2.2.2.2.2.2.1, onW.2.2.2.2.2.2.2, onW.2.2.2.2.2.2.2, onW.2.2.2.2.2.2.2]
  rw [onW.2.2.1] at hr4
  obtain ⟨bv, ov, rfl, hcv⟩ := hr4.at_ 0 (by decide)
  have H4 := Lib.hid (H3.out.trans (hb4.mono H3.out.size))
  have hbl := cell_lt hcv
  have hbA : Below w4.heap.size w4 (w4.alloc (.cells #[.int .i64 5, .int .i64 0, .bool false, .int .i64 0, .int .i64 0, .int .i64 2, .slice y1 2 c1, .slice (some ⟨bv, ov, none⟩) 2 c2] 53)) := (Below.refl _ _).alloc (Nat.le_refl _) _
  have hcv2 := (hbA.cell hbl).trans hcv
  simp at hcv2
  have H5 := Lib.hid (H4.out.trans (hbA.mono H4.out.size))
  clear ho hb4 hr4 hcv hbA
  go_wp2
  go_ret
  exact ⟨rfl, H5.out⟩
end Go.Proofs.YtojcdljpgginjaaDoor
