/-
  How the arguments of the laws are opened: arrays of two, slices of whole numbers, slices of structs.
-/
import Derived.Test.YtennhifmhlmjhaaRows
import Derived.Test.YtennhifmhlmjhaaKit
import Derived.WalkKit
import Derived.ProofKit
import Derived.OpenShut
import Derived.Lib.SmallJoins
import Derived.Deep.Slices
import Derived.Deep.Fields
import Derived.ChangeSame
namespace Go.Proofs.Ytennhifmhlmjhaa
open Go Go.RowKit Go.ChangeShapes Go.WideShapes Go.ChangeAt Go.Joins Go.Deep

section
variable {H : Type} {enc : TypeId × Value → H} {P : Program} {w : World} {base : Nat} {spare : Nat → Bool} {held : Bool}

theorem okWide_array {r : Reach} {b0 : Nat} {t e : TypeId} {n : Nat} {v : Value} (ht : P.underlying t = some (.array n e)) (h : Value.okWide P w r b0 t v) : ∃ cs, v = .agg cs ∧ cs.size = P.cellsOf t := by
  simp only [Value.okWide, ht] at h
  obtain ⟨cs, h1, h2, _⟩ := h
  exact ⟨cs, h1, h2⟩

/-- An array of whole numbers, by value. -/
theorem open_arr {r : Reach} {b0 : Nat} {t e : TypeId} {n : Nat} {k : IntKind} {v : Value} {d : DataW H} {p : List MemPlace} (ht : P.underlying t = some (.array n e)) (he : P.underlying e = some (.int k)) (hce : P.cellsOf e = 1) (hct : P.cellsOf t = n)
    (hv : Value.okWide P w r b0 t v) (h : DataW.Trod enc P w base spare held t v d p) :
    ∃ zs : List Int, v = .agg (zs.map (Value.int k)).toArray ∧ zs.length = n ∧ ∀ z ∈ zs, (Lit.int k z).wf = true := by
  obtain ⟨cs, rfl, hsz⟩ := okWide_array ht hv
  obtain ⟨fuel, hf⟩ := h
  obtain ⟨xs, m, _, _, hl, hxl, hi⟩ := DataW.trod_array ht hf
  rw [hce] at hi
  rw [hct] at hsz
  simp only [Value.cells] at hi hl
  have key : ∀ i, i < n → ∃ z, cs.toList[i]? = some (.int k z) ∧ (Lit.int k z).wf = true := by
    intro i hin
    have h1 := hi i hin
    have hx : xs[i]? = some (xs[i]'(by omega)) := List.getElem?_eq_getElem (by omega)
    have hc : i < cs.toList.length := by simpa [hsz] using hin
    have hone' : (cs.toList.drop (i * 1)).take 1 = [cs.toList[i]'hc] := by
      rw [Nat.mul_one, List.drop_eq_getElem_cons hc]; rfl
    rw [hone', hx] at h1
    obtain ⟨z, hz, _, hw⟩ := DataW.trod_int he h1
    refine ⟨z, ?_, hw⟩
    rw [List.getElem?_eq_getElem hc]
    simpa using hz
  refine ⟨(List.range n).map fun i => ((cs.toList[i]?).map intOf).getD 0, ?_, by simp, ?_⟩
  · congr 1
    apply Array.toList_inj.1
    apply List.ext_getElem?
    intro i
    by_cases hin : i < n
    · obtain ⟨z, hz, _⟩ := key i hin
      rw [hz]
      simp only [List.getElem?_map, List.getElem?_range hin, Option.map_some, hz, Option.getD_some, intOf]
    · simp [hin, hsz]
  · intro z hz
    obtain ⟨i, hi', rfl⟩ := List.mem_map.1 hz
    obtain ⟨z, hz, hw⟩ := key i (by simpa using hi')
    rw [hz]
    exact hw
theorem open_arr2 {r : Reach} {b0 : Nat} {t e : TypeId} {k : IntKind} {v : Value} {d : DataW H} {p : List MemPlace} (ht : P.underlying t = some (.array 2 e)) (he : P.underlying e = some (.int k)) (hce : P.cellsOf e = 1) (hct : P.cellsOf t = 2)
    (hv : Value.okWide P w r b0 t v) (h : DataW.Trod enc P w base spare held t v d p) :
    ∃ a b : Int, v = .agg #[.int k a, .int k b] ∧ (Lit.int k a).wf = true ∧ (Lit.int k b).wf = true := by
  obtain ⟨zs, rfl, hl, hw⟩ := open_arr ht he hce hct hv h
  match zs, hl with
  | [a, b], _ => exact ⟨a, b, rfl, hw a (by simp), hw b (by simp)⟩
theorem open_arr3 {r : Reach} {b0 : Nat} {t e : TypeId} {k : IntKind} {v : Value} {d : DataW H} {p : List MemPlace} (ht : P.underlying t = some (.array 3 e)) (he : P.underlying e = some (.int k)) (hce : P.cellsOf e = 1) (hct : P.cellsOf t = 3)
    (hv : Value.okWide P w r b0 t v) (h : DataW.Trod enc P w base spare held t v d p) :
    ∃ a b c : Int, v = .agg #[.int k a, .int k b, .int k c] ∧ (Lit.int k a).wf = true ∧ (Lit.int k b).wf = true ∧ (Lit.int k c).wf = true := by
  obtain ⟨zs, rfl, hl, hw⟩ := open_arr ht he hce hct hv h
  match zs, hl with
  | [a, b, c], _ => exact ⟨a, b, c, rfl, hw a (by simp), hw b (by simp), hw c (by simp)⟩

/-- A slice of whole numbers that came in. -/
theorem open_reads {r : Reach} {b0 : Nat} {t e : TypeId} {k : IntKind} {v : Value} {d : DataW H} {p : List MemPlace} (ht : P.underlying t = some (.slice e)) (he : P.underlying e = some (.int k)) (hce : P.cellsOf e = 1)
    (hv : Value.okWide P w r b0 t v) (h : DataW.Trod enc P w 0 (fun _ => true) true t v d p) :
    ∃ (a : Option Addr) (xs : List Int) (cap : Nat), v = .slice a xs.length cap ∧ Reads k w a xs ∧ (∀ z ∈ xs, (Lit.int k z).wf = true) ∧ (a = none → xs = [] ∧ cap = 0) ∧ xs.length ≤ cap ∧ cap ≤ maxLen := by
  obtain ⟨a, len, cap, rfl⟩ := okWide_slice ht hv
  obtain ⟨fuel, hf⟩ := h
  rcases open_ints ht he hce hf with ⟨hcs, _⟩ | ⟨x, l, c, zs, hcs, _, hl, hm, hz, _, hcell, hwz⟩
  · simp [Value.cells] at hcs
    obtain ⟨rfl, rfl, rfl⟩ := hcs
    exact ⟨none, [], 0, rfl, .inl rfl, by simp, fun _ => ⟨rfl, rfl⟩, by simp, by simp⟩
  · simp [Value.cells] at hcs
    obtain ⟨rfl, rfl, rfl⟩ := hcs
    have hzl : zs.length = cap := by simpa using hz
    have hlen : (zs.take len).length = len := by simp; omega
    refine ⟨some x, zs.take len, cap, by rw [hlen], ?_, fun z hz' => hwz z (List.mem_of_mem_take hz'), by simp, by omega, hm⟩
    by_cases h0 : len = 0
    · subst h0; exact .inl (by simp)
    · have hc0 := hcell 0 (by omega)
      obtain ⟨b, off, spot⟩ := x
      have hspot : spot = none := by simpa [Addr.add] using World.cell?_spot hc0
      subst hspot
      refine .inr ⟨b, off, rfl, fun i hi => ?_⟩
      rw [hlen] at hi
      have hci := hcell i (by omega)
      have e1 : (⟨b, off, none⟩ : Addr).add i = ⟨b, off + i, none⟩ := by unfold Addr.add; split <;> simp_all
      rw [e1] at hci
      rw [hci]
      simp [hi]
end
end Go.Proofs.Ytennhifmhlmjhaa
