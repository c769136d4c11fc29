/-
  desc.Pointer.
-/
import Derived.Test.YtppdiikjigacpaaDoorTab
namespace Go.Proofs.YtppdiikjigacpaaDoor
open Go Go.RowKit

def isPtr (k : Int) : Bool := decide (1 ≤ k ∧ k < 4)
theorem isPtr_ofK (k : Int) : (ofK k == 1) = isPtr k := by
  unfold ofK isPtr
  rw [Bool.eq_iff_iff]
  simp
  repeat' split
  all_goals omega
theorem Pointer_any (k : Int) (w : World) (h0 : Tab w) :
    Calls Tryd.prog 16 #[.int .i64 k] w fun e w' => e = .returned (.bool (isPtr k)) ∧ w = w' := by
  go_enter Tryd.func16, Tryd.ntmps16
  go_wp2_with (go_at_call 25; refine (of_any _ _ h0).mono ?_; rintro e w' ⟨rfl, rfl⟩)
  go_ret
  refine ⟨?_, rfl⟩
  rw [← isPtr_ofK]
  rfl
end Go.Proofs.YtppdiikjigacpaaDoor
