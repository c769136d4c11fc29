/-
  Eight cells of a block are written.
-/
import Derived.Test.YtojcdljpgginjaaDoorKit
namespace Go.Proofs.YtojcdljpgginjaaDoor
open Go Go.RowKit

/-- Eight cells are written, one after the other. -/
def set8 (w : World) (g : Nat) (v0 v1 v2 v3 v4 v5 v6 v7 : Value) : World :=
  (((((((w.setCell ⟨g, 0, none⟩ v0).setCell ⟨g, 1, none⟩ v1).setCell ⟨g, 2, none⟩ v2).setCell ⟨g, 3, none⟩ v3).setCell ⟨g, 4, none⟩ v4).setCell ⟨g, 5, none⟩ v5).setCell ⟨g, 6, none⟩ v6).setCell ⟨g, 7, none⟩ v7
theorem set8_at {w : World} {g : Nat} {u0 u1 u2 u3 u4 u5 u6 u7 : Value} {t : TypeId} (h : w.heap[g]? = some (.cells #[u0, u1, u2, u3, u4, u5, u6, u7] t (0, 0))) (v0 v1 v2 v3 v4 v5 v6 v7 : Value) :
    (set8 w g v0 v1 v2 v3 v4 v5 v6 v7).heap[g]? = some (.cells #[v0, v1, v2, v3, v4, v5, v6, v7] t (0, 0)) ∧ w.grownBy (set8 w g v0 v1 v2 v3 v4 v5 v6 v7) (some g) := by
  refine ⟨?_, ?_⟩
  · have := heap_set (heap_set (heap_set (heap_set (heap_set (heap_set (heap_set (heap_set h 0 v0) 1 v1) 2 v2) 3 v3) 4 v4) 5 v5) 6 v6) 7 v7
    simpa [set8] using this
  · exact grown_trans (grown_trans (grown_trans (grown_trans (grown_trans (grown_trans (grown_trans (grown_set w g 0 v0) (grown_set _ g 1 v1)) (grown_set _ g 2 v2)) (grown_set _ g 3 v3)) (grown_set _ g 4 v4)) (grown_set _ g 5 v5)) (grown_set _ g 6 v6)) (grown_set _ g 7 v7)
end Go.Proofs.YtojcdljpgginjaaDoor
