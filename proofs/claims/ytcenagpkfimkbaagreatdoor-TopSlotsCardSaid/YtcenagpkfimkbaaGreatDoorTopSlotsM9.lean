/-
  Contracts of functions of the program, laid together.
-/
import Derived.Test.YtcenagpkfimkbaaGreatDoorTopSlotsM6
import Derived.Test.YtcenagpkfimkbaaGreatDoorTopSlotsM8
import Derived.Sort.OwnSortedInts
import Derived.Shelf.Slices.In.SortNone
namespace Go.Proofs.YtcenagpkfimkbaaGreatDoor
open Go Go.RowKit Go.Shelf Go.Sort

theorem SortOwn_any (B : Nat) (v : Value) (zs : List Int) (w : World) (h : w.ownsRow B 3 1 v zs.length (zs.map (Value.int .i64))) (hz : zs.length ≤ 1000000000) :
    Calls Tryz.prog 134 #[v] w fun e w' => e = .returned (.tuple #[]) ∧ w.grownBy w' v.ownBlock ∧ w'.ownsRow B 3 1 v zs.length ((zs.mergeSort fun x y => decide (x ≤ y)).map (Value.int .i64)) := by
  rcases h.2 with ⟨rfl, h0⟩ | ⟨g, cap, cur, rfl, hg, hb, hn, hcap, hcs, ht⟩
  · have hz : zs = [] := List.length_eq_zero_iff.1 h0
    subst hz
    refine (Any.slices_Sort_int_none sortLays none 0 w).mono ?_
    rintro e w' ⟨rfl, rfl⟩
    exact ⟨rfl, ⟨rfl, rfl, rfl, Nat.le_refl _, fun _ _ _ => rfl⟩, by simpa using h⟩
  · have hl : (zs.mergeSort fun x y => decide (x ≤ y)).length = zs.length := by simp
    refine (Sort_any g 0 cap zs w (holds_of_blockI hb (by simpa using ht)) (Array.getElem?_eq_some_iff.1 hb).1 (by omega)).mono ?_
    rintro e w' ⟨rfl, n, os, rfl⟩
    exact ⟨rfl, grownBy_sortedI _, ownsRow_sortedI hl hg hb hn hcap hcs⟩
end Go.Proofs.YtcenagpkfimkbaaGreatDoor
