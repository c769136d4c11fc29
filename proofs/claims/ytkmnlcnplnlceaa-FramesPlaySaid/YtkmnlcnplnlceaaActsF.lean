/-
  The slice of acts as it comes in: the cells of the five fields of each.
-/
import Derived.Test.YtkmnlcnplnlceaaStack4
import Derived.IntWalk
import Derived.Test.YtkmnlcnplnlceaaOpen
namespace Go.Proofs.Ytkmnlcnplnlceaa
open Go Go.RowKit Go.ChangeShapes Go.WideShapes Go.ChangeAt Go.Joins Go.Deep

theorem acts_come {H : Type} {enc : TypeId × Value → H} {w : World} {r : Reach} {b0 : Nat} {v : Value} {d : DataW H} {p : List MemPlace}
    (hv : Value.okWide Try.prog w r b0 22 v) (h : DataW.Trod enc Try.prog w 0 (fun _ => true) true 22 v d p) :
    ∃ (a : Option Addr) (m cap : Nat) (K P V : Nat → Int), v = .slice a m cap ∧ ActsAt w a m K P V := by
  obtain ⟨a, len, cap, rfl, _, _, _, hs, hc⟩ := open_structs Try.underlying22 Try.underlying29 (by kernel_rfl) (by kernel_rfl) (by decide) hv h
  have key : ∀ j, j < 3 → ∀ i, i < len → ∃ z : Int, (∀ b off, a = some ⟨b, off, none⟩ → w.cell? ⟨b, off + (i * 3 + j), none⟩ = some (.int (if j < 1 then .i64 else .u64) z)) ∧ (1 ≤ j → (Lit.int .u64 z).wf = true) := by
    intro j hj i hi
    obtain ⟨b, off, rfl⟩ := hs (by omega)
    have h5 : ∀ f, _ → _ := fun f => hc b off rfl i hi j f
    match j, hj with
    | 0, _ =>
      obtain ⟨u, y, n, hu, ht⟩ := h5 _ rfl
      obtain ⟨z, hz, _, _⟩ := DataW.trod_int Try.underlying3 ht
      simp at hz; subst hz
      exact ⟨z, fun b' off' he => by cases he; exact hu, fun h => by omega⟩
    | 1, _ | 2, _ =>
      obtain ⟨u, y, n, hu, ht⟩ := h5 _ rfl
      obtain ⟨z, hz, _, hw⟩ := DataW.trod_int Try.underlying23 ht
      simp at hz; subst hz
      exact ⟨z, fun b' off' he => by cases he; exact hu, fun _ => hw⟩
  refine ⟨a, len, cap, fun i => if h : i < len then (key 0 (by omega) i h).choose else 0, fun i => if h : i < len then (key 1 (by omega) i h).choose else 0, fun i => if h : i < len then (key 2 (by omega) i h).choose else 0, rfl, fun i hi => ?_⟩
  obtain ⟨b, off, rfl⟩ := hs (by omega)
  simp only [dif_pos hi]
  have hb := bounds_u64 ((key 1 (by omega) i hi).choose_spec.2 (by omega))
  exact ⟨b, off, rfl, (key 0 (by omega) i hi).choose_spec.1 b off rfl, (key 1 (by omega) i hi).choose_spec.1 b off rfl, (key 2 (by omega) i hi).choose_spec.1 b off rfl, hb.1, by omega⟩
end Go.Proofs.Ytkmnlcnplnlceaa
