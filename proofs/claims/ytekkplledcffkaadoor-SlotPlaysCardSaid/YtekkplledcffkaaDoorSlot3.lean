/-
  The law SlotOne, walked.
-/
import Derived.Test.YtekkplledcffkaaDoorSlot2
namespace Go.Proofs.YtekkplledcffkaaDoor
open Go Go.RowKit

theorem fixed_any (w : World) : Calls Tryd.prog 4 #[] w fun e w' => e = .returned (.bool true) ∧ Below w.heap.size w w' := by
  have hbo : Below w.heap.size w (w.alloc (.cells #[.int .i64 0, .int .i64 1] 3)) := (Below.refl _ _).alloc (Nat.le_refl _) _
  have hr : Reads .i64 (w.alloc (.cells #[.int .i64 0, .int .i64 1] 3)) (some ⟨w.heap.size, 0, none⟩) [0, 1] := by
    refine .inr ⟨_, _, rfl, fun i hi => ?_⟩
    rw [heap_cell (heap_alloc_eq _ _), Nat.zero_add]
    match i, hi with
    | 0, _ => rfl
    | 1, _ => rfl
  have hA := At_any 5 0 0 0 0 false (some ⟨w.heap.size, 0, none⟩) [0, 1] 2 none 0 0 1 _ hr (by decide) (by decide) (by decide)
  rw [show atV 5 ([0, 1] : List Int).length 1 = 6 by unfold atV atB; simp; unfold wrap64; decide, show kiV [0, 1] 1 = 1 by rfl, show atE ([0, 1] : List Int).length 1 = 0 by rfl] at hA
  go_enter Tryd.func4, Tryd.ntmps4
  go_wp2_with fail
  refine hA.mono ?_
  rintro e w1 ⟨rfl, hb1⟩
  go_wp2
  go_ret
  exact ⟨rfl, hbo.trans (hb1.mono hbo.size)⟩

/-- What a write changes: one place at most. -/
theorem stL_only (xs : List Int) (at_ : Int) (n : Nat) (i v : Int) : ∃ d : Nat, (∀ q, q ≠ d → (stL xs at_ n i v)[q]? = xs[q]?) := by
  refine ⟨(wrap64 (at_ + i)).toNat, fun q hq => ?_⟩
  unfold stL
  split
  · unfold wrL
    split
    · rw [List.getElem?_set, if_neg (fun e => hq e.symm)]
    · rfl
  · rfl
theorem stL_refused {xs : List Int} {at_ : Int} {n : Nat} {i v : Int} (h : stE xs.length at_ n i ≠ 0) : stL xs at_ n i v = xs := by
  unfold stE at h
  unfold stL
  split
  · rename_i h1
    rw [if_pos h1] at h
    unfold wrE at h
    unfold wrL
    split
    · rename_i h2
      rw [if_pos h2] at h
      exact absurd rfl h
    · rfl
  · rfl
theorem stL_length (xs : List Int) (at_ : Int) (n : Nat) (i v : Int) : (stL xs at_ n i v).length = xs.length := by
  unfold stL
  split
  · exact wrL_length _ _ _
  · rfl
theorem ldV_stored {xs : List Int} {at_ : Int} {n : Nat} {i v : Int} (h : stE xs.length at_ n i = 0) : ldV (stL xs at_ n i v) at_ n i = v ∧ ldE xs.length at_ n i = 0 := by
  unfold stE at h
  unfold ldV ldE stL
  split
  · rename_i h1
    rw [if_pos h1] at h
    refine ⟨?_, h⟩
    unfold wrE at h
    unfold rdV wrL
    by_cases h2 : inB xs.length (wrap64 (at_ + i)) = true
    · have h3 : (wrap64 (at_ + i)).toNat < xs.length := by simp [inB] at h2; omega
      rw [if_pos h2, List.length_set, if_pos h2, List.getD_eq_getElem?_getD, List.getElem?_set_self h3]
      rfl
    · rw [if_neg h2] at h; exact absurd h (by decide)
  · rename_i h1
    rw [if_neg h1] at h
    exact absurd h (by decide)
theorem ldV_other {xs : List Int} {at_ : Int} {n : Nat} {i j v : Int} (hn : n ≤ 100) (hi : 0 ≤ i) (hj : 0 ≤ j) (hij : i ≠ j) : ldV (stL xs at_ n i v) at_ n j = ldV xs at_ n j := by
  unfold ldV
  split
  · rename_i h1
    unfold stL
    split
    · rename_i h2
      have h3 : i < n := by simpa [atB] using h2
      have h4 : j < n := by simpa [atB] using h1
      have hne : wrap64 (at_ + i) ≠ wrap64 (at_ + j) := by unfold wrap64; omega
      unfold rdV wrL
      split
      · rename_i h5
        rw [List.length_set]
        split
        · rename_i h6
          have h7 : (wrap64 (at_ + i)).toNat ≠ (wrap64 (at_ + j)).toNat := by simp [inB] at h5 h6; omega
          rw [List.getD_eq_getElem?_getD, List.getD_eq_getElem?_getD, List.getElem?_set_ne h7]
        · rfl
      · rfl
    · rfl
  · rfl
end Go.Proofs.YtekkplledcffkaaDoor
