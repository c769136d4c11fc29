/-
  kraalref12.Same says yes of two objects that hold the same.
-/
import Derived.Test.YtojcdljpgginjaaDoorSame2
namespace Go.Proofs.YtojcdljpgginjaaDoor
open Go Go.RowKit

theorem run_neLike (a : Bool) (k t n : Int) (w : World) :
    (binOp .neq 26 (.agg #[.bool a, .int .i64 k, .int .i64 t, .int .i64 n]) (.agg #[.bool a, .int .i64 k, .int .i64 t, .int .i64 n])).run Tryd.prog w = .ok (.bool false) w := by
  simp [go_sem]

set_option maxRecDepth 100000 in
set_option maxHeartbeats 4000000 in
theorem oSame_any (x1 x2 x4 x5 x6 : Int) (x3 : Bool) (y1 y2 z1 z2 : Option Addr) (c1 c2 d1 d2 : Nat) (ks vs : List Int) (w : World) (hy1 : Reads .i64 w y1 ks) (hz1 : Reads .i64 w z1 ks) (hy2 : Reads .u64 w y2 vs) (hz2 : Reads .u64 w z2 vs)
    (hk : ks.length ≤ 9223372036854775807) (hn : vs.length * 8 ≤ 140737488355328) :
    Calls Tryd.prog 20 #[.agg #[.int .i64 x1, .int .i64 x2, .bool x3, .int .i64 x4, .int .i64 x5, .int .i64 x6, .slice y1 ks.length c1, .slice y2 vs.length c2], .agg #[.int .i64 x1, .int .i64 x2, .bool x3, .int .i64 x4, .int .i64 x5, .int .i64 x6, .slice z1 ks.length d1, .slice z2 vs.length d2]] w fun e w' => e = .returned (.bool true) ∧ Below w.heap.size w w' := by
  obtain ⟨W, hW⟩ : ∃ W, W = (w.alloc (.cells #[.int .i64 x1, .int .i64 x2, .bool x3, .int .i64 x4, .int .i64 x5, .int .i64 x6, .slice y1 ks.length c1, .slice y2 vs.length c2] 53)).alloc (.cells #[.int .i64 x1, .int .i64 x2, .bool x3, .int .i64 x4, .int .i64 x5, .int .i64 x6, .slice z1 ks.length d1, .slice z2 vs.length d2] 53) := ⟨_, rfl⟩
  have hbo : Below w.heap.size w W := by rw [hW]; exact ((Below.refl _ _).alloc (Nat.le_refl _) _).alloc (by simp) _
  have hO1 : W.heap[w.heap.size]? = some (.cells #[.int .i64 x1, .int .i64 x2, .bool x3, .int .i64 x4, .int .i64 x5, .int .i64 x6, .slice y1 ks.length c1, .slice y2 vs.length c2] 53 (0, 0)) := by
    rw [hW]; exact heap_alloc_lt (heap_alloc_eq _ _) _
  have hO2 : W.heap[w.heap.size + 1]? = some (.cells #[.int .i64 x1, .int .i64 x2, .bool x3, .int .i64 x4, .int .i64 x5, .int .i64 x6, .slice z1 ks.length d1, .slice z2 vs.length d2] 53 (0, 0)) := by
    rw [hW]
    have := heap_alloc_eq (w.alloc (.cells #[.int .i64 x1, .int .i64 x2, .bool x3, .int .i64 x4, .int .i64 x5, .int .i64 x6, .slice y1 ks.length c1, .slice y2 vs.length c2] 53)) (.cells #[.int .i64 x1, .int .i64 x2, .bool x3, .int .i64 x4, .int .i64 x5, .int .i64 x6, .slice z1 ks.length d1, .slice z2 vs.length d2] 53)
    rw [show (w.alloc (.cells #[.int .i64 x1, .int .i64 x2, .bool x3, .int .i64 x4, .int .i64 x5, .int .i64 x6, .slice y1 ks.length c1, .slice y2 vs.length c2] 53)).heap.size = w.heap.size + 1 by simp] at this
    exact this
  have HW := Lib.hid hW
  clear hW
  have H := Lib.hid (And.intro (hy1.below hbo) (And.intro (hz1.below hbo) (And.intro (hy2.below hbo) (hz2.below hbo))))
  clear hy1 hz1 hy2 hz2
  have hne := fun w => run_neLike x3 x4 x5 x6 w
  have q1 : (x1 != x1) = false := by simp
  have q2 : (x2 != x2) = false := by simp
  have a0 := heap_cell hO1 0
  have a1 := heap_cell hO1 1
  have a2 := heap_cell hO1 2
  have a3 := heap_cell hO1 3
  have a4 := heap_cell hO1 4
  have a5 := heap_cell hO1 5
  have a6 := heap_cell hO1 6
  have a7 := heap_cell hO1 7
  simp at a0 a1 a2 a3 a4 a5 a6 a7
  have b0 := heap_cell hO2 0
  have b1 := heap_cell hO2 1
  have b2 := heap_cell hO2 2
  have b3 := heap_cell hO2 3
  have b4 := heap_cell hO2 4
  have b5 := heap_cell hO2 5
  have b6 := heap_cell hO2 6
  have b7 := heap_cell hO2 7
  simp at b0 b1 b2 b3 b4 b5 b6 b7
  go_enter Tryd.func20, Tryd.ntmps20
  go_wp2_with fail
  rw [← HW.out]
  have HB := Lib.hid (And.intro hbo (And.intro hO1 hO2))
  clear hbo hO1 hO2
  go_wp2
  go_loopw [5] (fun i wr => ∃ j m : Nat, j ≤ ks.length ∧ i = .int .i64 j ∧ wr = W.drewN m) (fun i _ => ks.length - (intOf i).toNat)
  case atStart => exact ⟨0, 0, Nat.zero_le _, rfl, rfl⟩
  case round =>
    obtain ⟨j, m, hj, rfl, rfl⟩ := hrel
    by_cases hlt : j < ks.length
    · obtain ⟨b1, o1, rfl, k1⟩ := H.out.1.at_ j hlt
      obtain ⟨b2, o2, rfl, k2⟩ := H.out.2.1.at_ j hlt
      obtain ⟨x, hx⟩ : ∃ x, ks[j]?.getD 0 = x := ⟨_, rfl⟩
      rw [hx] at k1 k2
      clear hx
      have i1 : (j : Int) < (ks.length : Int) := by omega
      have i0 : (0 : Int) ≤ (j : Int) := by omega
      have hb2 : (x != x) = false := by simp
      go_wp2
      go_quiet (fail)
      go_wp2
      go_roundw
      case rel => exact ⟨j + 1, m + nq, by omega, by go_num, rfl⟩
      case measure => simp [intOf]; omega
    · obtain rfl : j = ks.length := by omega
      have hs := Same_any y2 z2 c2 d2 vs vs (W.drewN m) (H.out.2.2.1.below ⟨rfl, rfl, rfl, Nat.le_refl _, fun _ _ => rfl⟩) (H.out.2.2.2.below ⟨rfl, rfl, rfl, Nat.le_refl _, fun _ _ => rfl⟩) hn
      rw [show decide (vs = vs) = true by simp] at hs
      go_wp2_with fail
      refine hs.mono ?_
      rintro e w1 ⟨rfl, hb1⟩
      go_wp2
      go_ret
      exact ⟨rfl, (below_drewN HB.out.1 m).trans (hb1.mono HB.out.1.size)⟩
end Go.Proofs.YtojcdljpgginjaaDoor
