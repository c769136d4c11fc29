/-
  What a memory holds while words are laid into it one by one.
-/
import Derived.Test.YtennhifmhlmjhaaSame1
namespace Go.Proofs.Ytennhifmhlmjhaa
open Go Go.RowKit

/-- The first j words of xs, zeros behind them. -/
def laidL (xs : List Int) (n j : Nat) : List Int := xs.take j ++ List.replicate (n - j) 0
theorem laidL_length (xs : List Int) (n j : Nat) (h : j ≤ xs.length) (hn : j ≤ n) : (laidL xs n j).length = n := by simp [laidL]; omega
theorem laidL_zero (xs : List Int) (n : Nat) : laidL xs n 0 = List.replicate n 0 := by simp [laidL]
theorem laidL_all (xs : List Int) (n : Nat) (h : xs.length = n) : laidL xs n xs.length = xs := by subst h; simp [laidL]
theorem laidL_step (xs : List Int) (n j : Nat) (h : j < xs.length) (hn : xs.length ≤ n) : wrL (laidL xs n j) j (xs[j]?.getD 0) = laidL xs n (j + 1) := by
  have hl := laidL_length xs n j (by omega) (by omega)
  unfold wrL
  rw [if_pos (by simp [inB, hl]; omega), Int.toNat_natCast]
  apply List.ext_getElem?
  intro q
  unfold laidL at *
  rw [List.getElem?_set]
  by_cases e : j = q
  · subst e
    rw [if_pos rfl, if_pos (by omega), List.getElem?_append_left (by simp; omega), List.getElem?_take, if_pos (by omega), List.getElem?_eq_getElem h]
    rfl
  · rw [if_neg e]
    by_cases h1 : q < j
    · rw [List.getElem?_append_left (by simp; omega), List.getElem?_append_left (by simp; omega), List.getElem?_take, List.getElem?_take, if_pos h1, if_pos (by omega)]
    · rw [List.getElem?_append_right (by simp; omega), List.getElem?_append_right (by simp; omega)]
      have e1 : (xs.take j).length = j := by simp; omega
      have e2 : (xs.take (j + 1)).length = j + 1 := by simp; omega
      rw [e1, e2, List.getElem?_replicate, List.getElem?_replicate]
      by_cases h2 : q < n
      · rw [if_pos (by omega), if_pos (by omega)]
      · rw [if_neg (by omega), if_neg (by omega)]
end Go.Proofs.Ytennhifmhlmjhaa
