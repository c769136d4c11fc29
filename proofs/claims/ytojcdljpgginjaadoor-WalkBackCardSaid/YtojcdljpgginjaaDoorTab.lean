/-
  Contract of desc.of: what a kind is, by the table 'desc.what'.
-/
import Derived.Test.YtojcdljpgginjaaDoorKit
namespace Go.Proofs.YtojcdljpgginjaaDoor
open Go Go.RowKit

/-- The table 'desc.what' lies in its block. -/
def Tab (w : World) : Prop := ∀ i, i < 4 → w.cell? ⟨0, i, none⟩ = some (.int .i64 (if i = 0 then 0 else 1))

theorem Tab.lt {w : World} (h : Tab w) : 0 < w.heap.size := cell_lt (h 0 (by omega))
theorem Tab.below {w w' : World} (h : Tab w) {B : Nat} (hB : 0 < B) (hb : Below B w w') : Tab w' := fun i hi =>
  (hb.cell (p := ⟨0, i, none⟩) hB).trans (h i hi)
theorem Tab.alloc {w : World} (h : Tab w) (o : Obj) : Tab (w.alloc o) := h.below h.lt ((Below.refl _ _).alloc (Nat.le_refl _) _)

def ofK (k : Int) : Int := if k < 0 ∨ 4 ≤ k then 2 else if k = 0 then 0 else 1

theorem of_any (k : Int) (w : World) (h0 : Tab w) :
    Calls Tryd.prog 46 #[.int .i64 k] w fun e w' => e = .returned (.int .i64 (ofK k)) ∧ w = w' := by
  have c0 := h0 0 (by omega)
  have c1 := h0 1 (by omega)
  have c2 := h0 2 (by omega)
  have c3 := h0 3 (by omega)
  simp at c0 c1 c2 c3
  clear h0
  rcases (show k < 0 ∨ 4 ≤ k ∨ k = 0 ∨ k = 1 ∨ k = 2 ∨ k = 3 by omega) with h | h | h | h | h | h
  · go_enter Tryd.func46, Tryd.ntmps46
    go_wp2
    go_ret
    exact ⟨by simp [ofK, h], rfl⟩
  · have h' : ¬ k < 0 := by omega
    go_enter Tryd.func46, Tryd.ntmps46
    go_wp2
    go_ret
    exact ⟨by simp [ofK, h], rfl⟩
  all_goals
    subst h
    go_enter Tryd.func46, Tryd.ntmps46
    go_wp2
    go_ret
    exact ⟨by simp [ofK], rfl⟩

end Go.Proofs.YtojcdljpgginjaaDoor
