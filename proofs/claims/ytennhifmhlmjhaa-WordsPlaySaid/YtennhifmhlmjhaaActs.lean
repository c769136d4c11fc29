/-
  The slice of acts as it comes in: the cells of the five fields of each.
-/
import Derived.Test.YtennhifmhlmjhaaPlay
import Derived.Test.YtennhifmhlmjhaaOpen
namespace Go.Proofs.Ytennhifmhlmjhaa
open Go Go.RowKit Go.ChangeShapes Go.WideShapes Go.ChangeAt Go.Joins Go.Deep

theorem acts_come {H : Type} {enc : TypeId × Value → H} {w : World} {r : Reach} {b0 : Nat} {v : Value} {d : DataW H} {p : List MemPlace}
    (hv : Value.okWide Try.prog w r b0 43 v) (h : DataW.Trod enc Try.prog w 0 (fun _ => true) true 43 v d p) :
    ∃ (a : Option Addr) (m cap : Nat) (K P Q T V : Nat → Int), v = .slice a m cap ∧ ActsAt w a m K P Q T V := by
  obtain ⟨a, len, cap, rfl, _, _, _, hs, hc⟩ := open_structs Try.underlying43 Try.underlying47 (by kernel_rfl) (by kernel_rfl) (by decide) hv h
  have key : ∀ j, j < 5 → ∀ i, i < len → ∃ z : Int, ∀ b off, a = some ⟨b, off, none⟩ → w.cell? ⟨b, off + (i * 5 + j), none⟩ = some (.int (if j < 4 then .i64 else .u64) z) := by
    intro j hj i hi
    obtain ⟨b, off, rfl⟩ := hs (by omega)
    have h5 : ∀ f, _ → _ := fun f => hc b off rfl i hi j f
    match j, hj with
    | 0, _ | 1, _ | 2, _ | 3, _ =>
      obtain ⟨u, y, n, hu, ht⟩ := h5 _ rfl
      obtain ⟨z, hz, _, _⟩ := DataW.trod_int Try.underlying3 ht
      simp at hz; subst hz
      exact ⟨z, fun b' off' he => by cases he; exact hu⟩
    | 4, _ =>
      obtain ⟨u, y, n, hu, ht⟩ := h5 _ rfl
      obtain ⟨z, hz, _, _⟩ := DataW.trod_int Try.underlying24 ht
      simp at hz; subst hz
      exact ⟨z, fun b' off' he => by cases he; exact hu⟩
  refine ⟨a, len, cap, fun i => if h : i < len then (key 0 (by omega) i h).choose else 0, fun i => if h : i < len then (key 1 (by omega) i h).choose else 0, fun i => if h : i < len then (key 2 (by omega) i h).choose else 0,
    fun i => if h : i < len then (key 3 (by omega) i h).choose else 0, fun i => if h : i < len then (key 4 (by omega) i h).choose else 0, rfl, fun i hi => ?_⟩
  obtain ⟨b, off, rfl⟩ := hs (by omega)
  simp only [dif_pos hi]
  exact ⟨b, off, rfl, (key 0 (by omega) i hi).choose_spec b off rfl, (key 1 (by omega) i hi).choose_spec b off rfl, (key 2 (by omega) i hi).choose_spec b off rfl, (key 3 (by omega) i hi).choose_spec b off rfl, (key 4 (by omega) i hi).choose_spec b off rfl⟩
end Go.Proofs.Ytennhifmhlmjhaa
