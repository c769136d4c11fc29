/-
  words.Mem.has: do all words of a run stand there?
-/
import Derived.Test.YtojcdljpgginjaaDoorMem1
namespace Go.Proofs.YtojcdljpgginjaaDoor
open Go Go.RowKit

/-- Do all words of a run stand there? -/
def hasB (n : Nat) (f k : Int) : Bool := decide (0 ≤ f ∧ 0 ≤ k ∧ f ≤ n ∧ k ≤ n - f)
theorem whas_any (b g : Nat) (xs : List Int) (f k : Int) (w : World) (h : MemAt w b g xs) :
    Calls Tryd.prog 30 #[.pointer (some ⟨b, 0, none⟩), .agg #[.int .i64 f, .int .i64 k]] w fun e w' => e = .returned (.bool (hasB xs.length f k)) ∧ Below w.heap.size w w' := by
  have hc := h.cell
  have hl := h.2.2
  have hlt := heap_lt h.1
  rcases (show f < 0 ∨ (0 ≤ f ∧ k < 0) ∨ (0 ≤ f ∧ 0 ≤ k ∧ (xs.length : Int) < f) ∨ (0 ≤ f ∧ 0 ≤ k ∧ f ≤ xs.length ∧ xs.length - f < k) ∨ (0 ≤ f ∧ 0 ≤ k ∧ f ≤ xs.length ∧ k ≤ xs.length - f) by omega) with h1 | ⟨h1, h2⟩ | ⟨h1, h2, h3⟩ | ⟨h1, h2, h3, h4⟩ | ⟨h1, h2, h3, h4⟩
  · have d1 : decide (0 ≤ f) = false := by simp; omega
    go_enter Tryd.func30, Tryd.ntmps30
    go_wp2
    go_quiet (fail)
    go_wp2
    go_ret
    exact ⟨ret_bool (by simp [hasB]; omega), below_drewN ((Below.refl _ _).alloc (Nat.le_refl _) _) _⟩
  · have d1 : decide (0 ≤ f) = true := by simp; omega
    have d2 : decide (0 ≤ k) = false := by simp; omega
    go_enter Tryd.func30, Tryd.ntmps30
    go_wp2
    go_quiet (fail)
    go_wp2
    go_ret
    exact ⟨ret_bool (by simp [hasB]; omega), below_drewN ((Below.refl _ _).alloc (Nat.le_refl _) _) _⟩
  · have d1 : decide (0 ≤ f) = true := by simp; omega
    have d2 : decide (0 ≤ k) = true := by simp; omega
    have d3 : decide (f ≤ (xs.length : Int)) = false := by simp; omega
    go_enter Tryd.func30, Tryd.ntmps30
    go_wp2
    go_quiet (fail)
    go_wp2
    go_ret
    exact ⟨ret_bool (by simp [hasB]; omega), below_drewN ((Below.refl _ _).alloc (Nat.le_refl _) _) _⟩
  · have d1 : decide (0 ≤ f) = true := by simp; omega
    have d2 : decide (0 ≤ k) = true := by simp; omega
    have d3 : decide (f ≤ (xs.length : Int)) = true := by simp; omega
    have d5 : IntKind.i64.wrap ((xs.length : Int) - f) = (xs.length : Int) - f := IntWalk.i64_in _ (by omega)
    have d4 : decide (k ≤ (xs.length : Int) - f) = false := by simp; omega
    go_enter Tryd.func30, Tryd.ntmps30
    go_wp2
    go_quiet (fail)
    go_wp2
    go_ret
    exact ⟨ret_bool (by simp [hasB]; omega), below_drewN ((Below.refl _ _).alloc (Nat.le_refl _) _) _⟩
  · have d1 : decide (0 ≤ f) = true := by simp; omega
    have d2 : decide (0 ≤ k) = true := by simp; omega
    have d3 : decide (f ≤ (xs.length : Int)) = true := by simp; omega
    have d5 : IntKind.i64.wrap ((xs.length : Int) - f) = (xs.length : Int) - f := IntWalk.i64_in _ (by omega)
    have d4 : decide (k ≤ (xs.length : Int) - f) = true := by simp; omega
    go_enter Tryd.func30, Tryd.ntmps30
    go_wp2
    go_quiet (fail)
    go_wp2
    go_ret
    exact ⟨ret_bool (by simp [hasB]; omega), below_drewN ((Below.refl _ _).alloc (Nat.le_refl _) _) _⟩
end Go.Proofs.YtojcdljpgginjaaDoor
