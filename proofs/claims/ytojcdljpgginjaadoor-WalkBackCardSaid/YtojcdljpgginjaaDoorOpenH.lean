/-
  How a list of heads that came in is opened.
-/
import Derived.Test.YtojcdljpgginjaaDoorOpenD
import Derived.Test.YtojcdljpgginjaaDoorWB1
namespace Go.Proofs.YtojcdljpgginjaaDoor
open Go Go.RowKit Go.ChangeShapes Go.WideShapes Go.ChangeAt Go.Joins Go.Deep

theorem wf_u8 {z : Int} (h : (Lit.int .u8 z).wf = true) : 0 ≤ z ∧ z ≤ 255 := by
  simp [Lit.wf, IntKind.min, IntKind.max, IntKind.bits, IntKind.signed] at h
  omega

set_option maxRecDepth 100000 in
/-- The list of heads of this program. -/
theorem heads_come {H : Type} {enc : TypeId × Value → H} {w : World} {r : Reach} {b0 : Nat} {v : Value} {d : DataW H} {p : List MemPlace}
    (hv : Value.okWide Tryd.prog w r b0 37 v) (h : DataW.Trod enc Tryd.prog w 0 (fun _ => true) true 37 v d p) :
    ∃ (a : Option Addr) (hs : List (Bool × Int × Int × Int)) (cap : Nat), v = .slice a hs.length cap ∧ Heads w a hs ∧ hs.length ≤ 9223372036854775807 := by
  obtain ⟨a, len, cap, rfl, hnil, hlc, hcm, hpos, hall⟩ := open_structs Tryd.underlying37 Tryd.underlying26 (by kernel_rfl) (by kernel_rfl) (by decide) hv h
  have key : ∀ i, ∃ g : Bool × Int × Int × Int, ∀ b off, a = some ⟨b, off, none⟩ → i < len → w.cell? ⟨b, off + i * 4, none⟩ = some (.bool g.1) ∧ w.cell? ⟨b, off + i * 4 + 1, none⟩ = some (.int .i64 g.2.1) ∧ w.cell? ⟨b, off + i * 4 + 2, none⟩ = some (.int .i64 g.2.2.1) ∧ w.cell? ⟨b, off + i * 4 + 3, none⟩ = some (.int .i64 g.2.2.2) := by
    intro i
    by_cases hi : i < len
    · obtain ⟨b, off, rfl⟩ := hpos (by omega)
      obtain ⟨u, y, n, hc, ht⟩ := hall b off rfl i hi 0 _ rfl
      obtain ⟨u1, y1, n1, hc1, ht1⟩ := hall b off rfl i hi 1 _ rfl
      obtain ⟨u2, y2, n2, hc2, ht2⟩ := hall b off rfl i hi 2 _ rfl
      obtain ⟨u3, y3, n3, hc3, ht3⟩ := hall b off rfl i hi 3 _ rfl
      obtain ⟨f, e, rfl⟩ := DataW.trod_bool Tryd.underlying4 ht
      obtain ⟨k, e1, rfl, _⟩ := DataW.trod_int Tryd.underlying3 ht1
      obtain ⟨t, e2, rfl, _⟩ := DataW.trod_int Tryd.underlying3 ht2
      obtain ⟨n, e3, rfl, _⟩ := DataW.trod_int Tryd.underlying3 ht3
      simp at e e1 e2 e3
      subst e e1 e2 e3
      exact ⟨(f, k, t, n), fun b' off' e _ => by cases e; exact ⟨hc, hc1, hc2, hc3⟩⟩
    · exact ⟨(false, 0, 0, 0), fun _ _ _ h => absurd h hi⟩
  obtain ⟨f, hf⟩ := Classical.axiomOfChoice key
  by_cases h0 : len = 0
  · subst h0
    exact ⟨a, [], cap, rfl, .inl rfl, by simp⟩
  · obtain ⟨b, off, rfl⟩ := hpos (by omega)
    refine ⟨some ⟨b, off, none⟩, (List.range len).map f, cap, by simp, .inr ⟨b, off, rfl, fun i hi => ?_⟩, by simp; unfold maxLen at hcm; omega⟩
    have hil : i < len := by simpa using hi
    have hx : ((List.range len).map f).getD i (false, 0, 0, 0) = f i := by simp [hil]
    rw [hx]
    exact hf i b off rfl hil
end Go.Proofs.YtojcdljpgginjaaDoor
