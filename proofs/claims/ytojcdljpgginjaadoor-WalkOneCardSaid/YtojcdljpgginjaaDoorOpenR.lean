/-
  How a list of runs that came in is opened.
-/
import Derived.Test.YtojcdljpgginjaaDoorOpenD
import Derived.Test.YtojcdljpgginjaaDoorEach
namespace Go.Proofs.YtojcdljpgginjaaDoor
open Go Go.RowKit Go.ChangeShapes Go.WideShapes Go.ChangeAt Go.Joins Go.Deep

theorem wf_u64 {z : Int} (h : (Lit.int .u64 z).wf = true) : 0 ≤ z ∧ z < 18446744073709551616 := by
  simp [Lit.wf, IntKind.min, IntKind.max, IntKind.bits, IntKind.signed] at h
  omega

set_option maxRecDepth 100000 in
/-- The list of runs of this program. -/
theorem runs_come {H : Type} {enc : TypeId × Value → H} {w : World} {r : Reach} {b0 : Nat} {v : Value} {d : DataW H} {p : List MemPlace}
    (hv : Value.okWide Tryd.prog w r b0 38 v) (h : DataW.Trod enc Tryd.prog w 0 (fun _ => true) true 38 v d p) :
    ∃ (a : Option Addr) (rs : List (Int × Int)) (cap : Nat), v = .slice a rs.length cap ∧ Runs w a rs ∧ (∀ p ∈ rs, -9223372036854775808 ≤ p.1 ∧ p.1 ≤ 9223372036854775807) ∧ rs.length ≤ 9223372036854775807 := by
  obtain ⟨a, len, cap, rfl, hnil, hlc, hcm, hpos, hall⟩ := open_structs Tryd.underlying38 Tryd.underlying24 (by kernel_rfl) (by kernel_rfl) (by decide) hv h
  have key : ∀ b off, a = some ⟨b, off, none⟩ → ∀ i, i < len → ∃ f k : Int, w.cell? ⟨b, off + i * 2, none⟩ = some (.int .i64 f) ∧ w.cell? ⟨b, off + i * 2 + 1, none⟩ = some (.int .i64 k) ∧ (-9223372036854775808 ≤ f ∧ f ≤ 9223372036854775807) := by
    intro b off ha i hi
    obtain ⟨u, y, n, hc, ht⟩ := hall b off ha i hi 0 _ rfl
    obtain ⟨u1, y1, n1, hc1, ht1⟩ := hall b off ha i hi 1 _ rfl
    obtain ⟨f, e, rfl, wf⟩ := DataW.trod_int Tryd.underlying3 ht
    obtain ⟨k, e1, rfl, wk⟩ := DataW.trod_int Tryd.underlying3 ht1
    simp at e e1
    subst e e1
    simp [Lit.wf, IntKind.min, IntKind.max, IntKind.bits, IntKind.signed] at wf
    exact ⟨f, k, hc, hc1, by omega, by omega⟩
  by_cases h0 : len = 0
  · subst h0
    exact ⟨a, [], cap, rfl, .inl rfl, by simp, by simp⟩
  · obtain ⟨b, off, rfl⟩ := hpos (by omega)
    have kb := key b off rfl
    refine ⟨some ⟨b, off, none⟩, (List.range len).map (fun i => if hi : i < len then (Classical.choose (kb i hi), Classical.choose (Classical.choose_spec (kb i hi))) else (0, 0)), cap, by simp, .inr ⟨b, off, rfl, fun i hi => ?_⟩, ?_, by simp; unfold maxLen at hcm; omega⟩
    · have hil : i < len := by simpa using hi
      have hs := Classical.choose_spec (Classical.choose_spec (kb i hil))
      have hx : ((List.range len).map (fun i => if hi : i < len then (Classical.choose (kb i hi), Classical.choose (Classical.choose_spec (kb i hi))) else (0, 0))).getD i (0, 0) = (Classical.choose (kb i hil), Classical.choose (Classical.choose_spec (kb i hil))) := by
        simp [hil]
      rw [hx]
      exact ⟨hs.1, hs.2.1⟩
    · intro p hp
      obtain ⟨i, hi, rfl⟩ := List.mem_map.1 hp
      have hil : i < len := by simpa using hi
      rw [dif_pos hil]
      exact (Classical.choose_spec (Classical.choose_spec (kb i hil))).2.2
end Go.Proofs.YtojcdljpgginjaaDoor
