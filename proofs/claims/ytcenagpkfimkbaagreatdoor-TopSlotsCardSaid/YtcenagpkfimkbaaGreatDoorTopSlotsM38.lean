/-
  Contracts of functions of the program, laid together.
-/
import Derived.Test.YtcenagpkfimkbaaGreatDoorTopSlotsM33
import Derived.Test.YtcenagpkfimkbaaGreatDoorTopSlotsM37
namespace Go.Proofs.YtcenagpkfimkbaaGreatDoor
open Go Go.RowKit

section
variable {B : HB} {H : HM} {O0 O1 : Obj} {mb : Nat} {fa : Option Addr} {fc : Nat} {S : Nat → Prop} {w : World}
set_option maxRecDepth 100000 in
set_option maxHeartbeats 1000000 in
theorem act12_any (h : HeapSt B H O0 O1 w S) (k a b c : Int) :
    Calls Tryz.prog 83 #[.pointer (some ⟨B.hb, 0, none⟩), opV k a b c] w (VE B O0 O1 S (fun v er H' => v = freeV H.gs ∧ er = 0 ∧ H' = H) w) := by
  obtain ⟨X, hX⟩ : ∃ X, w.alloc (.cells #[.int .i64 k, .int .u64 a, .int .u64 b, .int .u64 c] 36) = X := ⟨_, rfl⟩
  have hbX : Below w.heap.size w X := by rw [← hX]; exact (Below.refl _ _).alloc (Nat.le_refl _) _
  have hh := (HeapSt.ok B H O0 O1).below h hbX
  have hF := pFree_any hh.pages
  have c0 := heap_cell hh.blk 0
  simp at c0
  have hle : H.gs.countP id ≤ H.gs.length := List.countP_le_length
  have hi := hh.pages.hi
  have f0 : 0 ≤ freeV H.gs := by unfold freeV; omega
  have f1 : freeV H.gs ≤ 1024 := by unfold freeV; omega
  obtain ⟨v, hv⟩ : ∃ v, freeV H.gs = v := ⟨_, rfl⟩
  rw [hv] at hF f0 f1
  have y1 : IntKind.u64.wrap v = v := by rw [IntKind.wrap_u64]; omega
  have HB := Lib.hid (And.intro hbX (And.intro h hv))
  clear hbX h hh hle hi hv
  go_enter Tryz.func83, Tryz.ntmps83
  go_wp2_with fail
  try rw [hX]
  go_wp2_with fail
  refine hF.mono ?_
  rintro e w2 ⟨rfl, hb⟩
  have HG : Hid (GS B O0 O1 S (fun v er H' => v = freeV H.gs ∧ er = 0 ∧ H' = H) w v 0 w2) := Lib.hid (GS.of_below HB.out.2.1 (HB.out.1.trans (hb.mono HB.out.1.size)) ⟨HB.out.2.2.symm, rfl, rfl⟩)
  clear hF hb
  go_wp2
  go_ret2
  exact ⟨_, _, rfl, HG.out⟩
variable (hM : MSt B H O0 O1 mb fa fc w S)
include hM
theorem doFree (a b c : Int) :
    Calls Tryz.prog 11 #[.pointer (some ⟨mb, 0, none⟩), opV 15 a b c] w (DoOut B O0 O1 mb fa fc S (fun v er H' => v = freeV H.gs ∧ er = 0 ∧ H' = H) w) := by
  refine (do15_any mb ⟨B.hb, 0, none⟩ a b c w (fun w1 v er w' => GS B O0 O1 S (fun v er H' => v = freeV H.gs ∧ er = 0 ∧ H' = H) w1 v er w') S hM.nm hM.lt hM.m0 (fun w1 hb1 => GS.some_ ?_)).mono fun e w' h => do_close hM (fun v er H' h => by rw [h.2.2]) h
  exact act12_any ((HeapSt.ok B H O0 O1).below hM.h hb1) 15 a b c
end
set_option maxRecDepth 100000 in
theorem doNone (mb : Nat) (k a b c : Int) (w : World) (hk : k < 1 ∨ 15 < k) :
    Calls Tryz.prog 11 #[.pointer (some ⟨mb, 0, none⟩), opV k a b c] w fun e w' => e = .returned (resV 0 11) ∧ Below w.heap.size w w' := by
  obtain ⟨X, hX⟩ : ∃ X, (w.alloc (.cells #[.int .i64 k, .int .u64 a, .int .u64 b, .int .u64 c] 36)).alloc (.cells #[.int .i64 0, .int .u64 0] 39) = X := ⟨_, rfl⟩
  have hbX : Below w.heap.size w X := by rw [← hX]; exact ((Below.refl _ _).alloc (Nat.le_refl _) _).alloc (by simp) _
  have oX : X.heap[w.heap.size]? = some (.cells #[.int .i64 k, .int .u64 a, .int .u64 b, .int .u64 c] 36 (0, 0)) := by rw [← hX]; exact heap_alloc_lt (heap_alloc_eq _ _) _
  have oR : X.heap[w.heap.size + 1]? = some (.cells #[.int .i64 0, .int .u64 0] 39 (0, 0)) := by rw [← hX]; simpa using heap_alloc_eq (w.alloc (.cells #[.int .i64 k, .int .u64 a, .int .u64 b, .int .u64 c] 36)) (.cells #[.int .i64 0, .int .u64 0] 39)
  have k0 := heap_cell oX 0
  have r0 := heap_cell oR 0
  have r1 := heap_cell oR 1
  have s0 := heap_free oR 0
  have s1 := heap_free oR 1
  simp at k0 r0 r1
  have HX := Lib.hid hbX
  clear hbX oX oR
  rcases hk with hk | hk
  · go_enter Tryz.func11, Tryz.ntmps11
    go_wp2_with fail
    try rw [hX]
    go_wp2
    refine bodyPost_ret (v := .agg #[.int .i64 11, .int .u64 0]) (by simp [results, Tryz.results11, go_sem, r0, r1]) rfl ⟨rfl, ?_⟩
    exact HX.out.grown (grown_trans (grown_set X (w.heap.size + 1) 0 (.int .i64 11)) (grown_set _ (w.heap.size + 1) 1 (.int .u64 0))) HX.out.size (fun k e => by cases e; omega)
  · have hk' : ¬ k < 1 := by omega
    go_enter Tryz.func11, Tryz.ntmps11
    go_wp2_with fail
    try rw [hX]
    go_wp2
    refine bodyPost_ret (v := .agg #[.int .i64 11, .int .u64 0]) (by simp [results, Tryz.results11, go_sem, r0, r1]) rfl ⟨rfl, ?_⟩
    exact HX.out.grown (grown_trans (grown_set X (w.heap.size + 1) 0 (.int .i64 11)) (grown_set _ (w.heap.size + 1) 1 (.int .u64 0))) HX.out.size (fun k e => by cases e; omega)
end Go.Proofs.YtcenagpkfimkbaaGreatDoor
