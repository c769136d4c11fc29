/-
  Contracts of functions of the program, laid together.
-/
import Derived.Test.YtcenagpkfimkbaaGreatDoorTopSlotsM7
import Derived.Maps.RangeWalk
namespace Go.Proofs.YtcenagpkfimkbaaGreatDoor
open Go Go.RowKit

structure IterAt (q : IntKind) (k : TypeId) (w : World) (b r : Nat) (m : IM Value) (done : List Int) : Prop where
  map : MapAt q k w b m
  nodup : done.Nodup
  has : ∀ x ∈ done, (lk m x).isSome = true
  rg : ∃ left cnt, w.ranges Tryz.prog k idElem b r m.length (encM q m) left cnt ∧ ∀ x, left (.int q x) = ((lk m x).isSome && !done.contains x)
section
variable {q : IntKind} {k t e : TypeId} {w : World} {b r : Nat} {m : IM Value} {done : List Int}
theorem MapAt.range (h : MapAt q k w b m) (hk : Tryz.prog.underlying k = some (.int q)) (ht : Tryz.prog.underlying t = some (.map k e)) :
    ∃ w', (Instr.range t (.map (some b))).run Tryz.prog w = .ok (.pointer (some ⟨w.heap.size, 0, none⟩)) w' ∧ IterAt q k w' b w.heap.size m [] ∧ w.grownBy w' none ∧ w'.heap.size = w.heap.size + 1 := by
  obtain ⟨w', h1, h2, h3, h4⟩ := h.1.range (Maps.int_keyed hk) ht
  refine ⟨w', h1, ⟨⟨h2.owns, h.2⟩, List.nodup_nil, (by simp), _, _, h2, fun x => ?_⟩, h3, h4⟩
  rw [enc_has]
  simp
theorem IterAt.next (h : IterAt q k w b r m done) (hk : Tryz.prog.underlying k = some (.int q)) (ty : TypeId) :
    ((∀ x, (lk m x).isSome = true → x ∈ done) ∧ (Instr.next (.pointer (some ⟨r, 0, none⟩)) false ty).run Tryz.prog w = .ok (.tuple #[.bool false]) w) ∨
    ∃ x v w', lk m x = some v ∧ x ∉ done ∧ (Lit.int q x).wf = true ∧ (Instr.next (.pointer (some ⟨r, 0, none⟩)) false ty).run Tryz.prog w = .ok (.tuple #[.bool true, .int q x, v]) w' ∧ IterAt q k w' b r m (done ++ [x]) ∧
      w.grownBy w' (some r) ∧ w'.heap.size = w.heap.size ∧ (Instr.entry (.pointer (some ⟨r, 0, none⟩))).run Tryz.prog w' = .ok (.tuple #[.int q x, v]) w' ∧ w'.rangeLeft b r < w.rangeLeft b r := by
  obtain ⟨left, cnt, hr, hl⟩ := h.rg
  rcases hr.next (Maps.int_keyed hk) ty with ⟨h0, h1, h2⟩ | ⟨key, v, kl, y, w', cnt', hkey, hlk, hv, hat, hrun, hrg, hlt, hg, hsz, hen⟩
  · refine .inl ⟨fun x hx => ?_, h2⟩
    have := h1 (.int q x)
    rw [hl, hx] at this
    simpa using this
  · obtain ⟨x, rfl, rfl, hwf⟩ := Maps.keyOf_int_inv hk hkey
    rw [hl] at hlk
    simp only [Bool.and_eq_true, Bool.not_eq_true'] at hlk
    obtain ⟨u, hu⟩ := Option.isSome_iff_exists.1 hlk.1
    have hy : y = (.held v, []) := by
      simp only [idElem, Option.some.injEq] at hv
      exact hv.symm
    have := hat (.held v)
    rw [enc_at, hu, hy] at this
    simp only [Option.getD_some, DataW.held.injEq] at this
    subst this
    have hnd : x ∉ done := by
      intro hx
      have := hlk.2
      rw [List.contains_iff_mem.2 hx] at this
      cases this
    refine .inr ⟨x, u, w', hu, hnd, hwf, hrun, ⟨⟨hrg.owns, h.map.2⟩, ?_, ?_, _, _, hrg, fun z => ?_⟩, hg, hsz, hen, ?_⟩
    · rw [List.nodup_append]
      exact ⟨h.nodup, by simp, fun a ha c hc => by
        simp only [List.mem_singleton] at hc
        subst hc
        rintro rfl
        exact hnd ha⟩
    · intro z hz
      rcases List.mem_append.1 hz with hz | hz
      · exact h.has z hz
      · simp only [List.mem_singleton] at hz
        subst hz
        rw [hu]; rfl
    · simp only [hl]
      by_cases e : z = x
      · subst e
        simp [Lit.sameKey]
      · simp [Lit.sameKey, e]
    · rw [hrg.left_eq, hr.left_eq]; exact hlt
theorem IterAt.moved {w' : World} {row : Option Nat} (h : IterAt q k w b r m done) (hg : w.grownBy w' row) (hb : some b ≠ row) (hr : some r ≠ row) : IterAt q k w' b r m done := by
  obtain ⟨left, cnt, h1, h2⟩ := h.rg
  have := h1.kept hg hb hr
  exact ⟨⟨this.owns, h.map.2⟩, h.nodup, h.has, left, cnt, this, h2⟩
theorem IterAt.all (h : IterAt q k w b r m done) (ha : ∀ x, (lk m x).isSome = true → x ∈ done) : done.Perm (m.map (·.1)) := by
  have hr := h.map.2
  refine (List.perm_ext_iff_of_nodup h.nodup ?_).2 fun x => ⟨fun hx => ?_, fun hx => ?_⟩
  · have : (m.map (·.1)).Pairwise (fun a c => a < c) := List.pairwise_map.2 hr
    exact this.imp (fun h => by omega)
  · obtain ⟨u, hu⟩ := Option.isSome_iff_exists.1 (h.has x hx)
    exact List.mem_map.2 ⟨(x, u), (lk_some hr).1 hu, rfl⟩
  · obtain ⟨p, hp, rfl⟩ := List.mem_map.1 hx
    exact ha _ (by rw [(lk_some hr).2 (show (p.1, p.2) ∈ m from hp)]; rfl)
end
theorem sort_rising {l s : List Int} (hp : l.Perm s) (hs : s.Pairwise (fun a c => a < c)) : l.mergeSort (fun x y => decide (x ≤ y)) = s := by
  have h1 : (l.mergeSort (fun x y => decide (x ≤ y))).Pairwise (fun a c => a ≤ c) := by
    have := List.pairwise_mergeSort (le := fun x y : Int => decide (x ≤ y)) (by intro a b c; simp; omega) (by intro a b; simp; omega) l
    exact this.imp (fun h => by simpa using h)
  exact List.Perm.eq_of_pairwise (fun a b _ _ h1 h2 => by omega) h1 (hs.imp (fun h => by omega)) ((List.mergeSort_perm l _).trans hp)
end Go.Proofs.YtcenagpkfimkbaaGreatDoor
