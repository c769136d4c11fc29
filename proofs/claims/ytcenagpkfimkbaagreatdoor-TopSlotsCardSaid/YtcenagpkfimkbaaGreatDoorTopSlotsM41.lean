/-
  Contracts of functions of the program, laid together.
-/
import Derived.Test.YtcenagpkfimkbaaGreatDoorTopSlotsM2
import Derived.Test.YtcenagpkfimkbaaGreatDoorTopSlotsM40
namespace Go.Proofs.YtcenagpkfimkbaaGreatDoor
open Go Go.RowKit Go.ChangeShapes Go.WideShapes Go.ChangeAt Go.Joins Go.Deep

section
variable {H : Type} {enc : TypeId × Value → H} {P : Program} {w : World} {base : Nat} {spare : Nat → Bool} {held : Bool}

theorem trod_reads {t e : TypeId} {k : IntKind} {n : Nat} {v : Value} {y : DataW H × List MemPlace} (ht : P.underlying t = some (.slice e)) (he : P.underlying e = some (.int k)) (hce : P.cellsOf e = 1)
    (hf : DataW.trod enc P w 0 (fun _ => true) true n t [v] = some y) :
    ∃ (a : Option Addr) (xs : List Int) (cap : Nat), v = .slice a xs.length cap ∧ Reads k w a xs ∧ (∀ z ∈ xs, (Lit.int k z).wf = true) ∧ (a = none → xs = [] ∧ cap = 0) ∧ xs.length ≤ cap ∧ cap ≤ maxLen := by
  rcases open_ints ht he hce hf with ⟨hcs, _⟩ | ⟨x, len, cap, zs, hcs, _, hl, hm, hz, _, hcell, hwz⟩
  · simp at hcs
    subst hcs
    exact ⟨none, [], 0, rfl, .inl rfl, by simp, fun _ => ⟨rfl, rfl⟩, by simp, by simp⟩
  · simp at hcs
    subst hcs
    have hzl : zs.length = cap := by simpa using hz
    have hlen : (zs.take len).length = len := by simp; omega
    refine ⟨some x, zs.take len, cap, by rw [hlen], ?_, fun z hz' => hwz z (List.mem_of_mem_take hz'), by simp, by omega, hm⟩
    by_cases h0 : len = 0
    · subst h0; exact .inl (by simp)
    · have hc0 := hcell 0 (by omega)
      obtain ⟨b, off, spot⟩ := x
      have hspot : spot = none := by simpa [Addr.add] using World.cell?_spot hc0
      subst hspot
      refine .inr ⟨b, off, rfl, fun i hi => ?_⟩
      rw [hlen] at hi
      have hci := hcell i (by omega)
      have e1 : (⟨b, off, none⟩ : Addr).add i = ⟨b, off + i, none⟩ := by unfold Addr.add; split <;> simp_all
      rw [e1] at hci
      rw [hci]
      simp [hi]

end
set_option maxRecDepth 100000 in
theorem descs_come {H : Type} {enc : TypeId × Value → H} {w : World} {r : Reach} {b0 : Nat} {v : Value} {d : DataW H} {p : List MemPlace}
    (hv : Value.okWide Tryz.prog w r b0 22 v) (h : DataW.Trod enc Tryz.prog w 0 (fun _ => true) true 22 v d p) :
    ∃ (a : Option Addr) (ds : List (List Int)) (cap : Nat), v = .slice a ds.length cap ∧ Descs w a ds ∧ ds.length ≤ 9223372036854775807 := by
  obtain ⟨a, len, cap, rfl, hnil, hlc, hcm, hpos, hall⟩ := open_structs Tryz.underlying22 Tryz.underlying76 (by kernel_rfl) (by kernel_rfl) (by decide) hv h
  have key : ∀ b off, a = some ⟨b, off, none⟩ → ∀ i, i < len → ∃ (fa : Option Addr) (x : List Int) (c : Nat), w.cell? ⟨b, off + i, none⟩ = some (.slice fa x.length c) ∧ Reads .i64 w fa x ∧ (fa = none → x = [] ∧ c = 0) := by
    intro b off ha i hi
    obtain ⟨u, y, n, hc, ht⟩ := hall b off ha i hi 0 _ rfl
    obtain ⟨fa, x, c, rfl, hr, _, hn, _, _⟩ := trod_reads Tryz.underlying58 Tryz.underlying3 (by kernel_rfl) ht
    refine ⟨fa, x, c, ?_, hr, hn⟩
    rw [← hc]
    congr 1
    simp
  by_cases h0 : len = 0
  · subst h0
    exact ⟨a, [], cap, rfl, .inl rfl, by simp⟩
  · obtain ⟨b, off, rfl⟩ := hpos (by omega)
    have kb := key b off rfl
    refine ⟨some ⟨b, off, none⟩, (List.range len).map (fun i => if hi : i < len then Classical.choose (Classical.choose_spec (kb i hi)) else []), cap, by simp, .inr ⟨b, off, rfl, fun i hi => ?_⟩, by simp; unfold maxLen at hcm; omega⟩
    have hil : i < len := by simpa using hi
    have hs := Classical.choose_spec (Classical.choose_spec (kb i hil))
    obtain ⟨c, h1, h2, h3⟩ := hs
    have hx : ((List.range len).map (fun i => if hi : i < len then Classical.choose (Classical.choose_spec (kb i hi)) else [])).getD i [] = Classical.choose (Classical.choose_spec (kb i hil)) := by
      simp [hil]
    rw [hx]
    exact ⟨_, c, h1, h2, h3⟩
end Go.Proofs.YtcenagpkfimkbaaGreatDoor
