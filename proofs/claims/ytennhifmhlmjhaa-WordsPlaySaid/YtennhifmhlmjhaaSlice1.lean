/-
  Slices of numbers: what they read as, what is new and owned; slices.Clone.
-/
import Derived.Test.YtennhifmhlmjhaaWords1
namespace Go.Proofs.Ytennhifmhlmjhaa
open Go Go.RowKit

theorem MemAt.reads {w : World} {b g : Nat} {xs : List Int} (h : MemAt w b g xs) : Reads .u64 w (some ⟨g, 0, none⟩) xs :=
  .inr ⟨g, 0, rfl, fun i hi => by rw [Nat.zero_add]; exact h.word i hi⟩

/-- A call returns a slice of its own, in new memory, that holds the numbers xs. -/
def RetOwn (k : IntKind) (t : TypeId) (xs : List Int) (w : World) (e : Ending) (w' : World) : Prop :=
  ∃ v, e = .returned v ∧ Below w.heap.size w w' ∧ w'.ownsRow w.heap.size t 1 v xs.length (xs.map (Value.int k))

theorem owns_reads {k : IntKind} {t : TypeId} {w : World} {B : Nat} {v : Value} {xs : List Int} (h : w.ownsRow B t 1 v xs.length (xs.map (Value.int k))) :
    ∃ a cap, v = .slice a xs.length cap ∧ Reads k w a xs ∧ (∀ g, a = some g → B ≤ g.block ∧ g.block < w.heap.size) ∧ xs.length ≤ cap := by
  rcases h.2 with ⟨rfl, h0⟩ | ⟨g, cap, cur, rfl, hB, hg, hn, hcap, hsz, htake⟩
  · have : xs = [] := List.length_eq_zero_iff.1 h0
    subst this
    exact ⟨none, 0, rfl, .inl rfl, by simp, by simp⟩
  · refine ⟨some ⟨g, 0, none⟩, cap, rfl, .inr ⟨g, 0, rfl, fun i hi => ?_⟩, fun q hq => by cases hq; exact ⟨hB, heap_lt hg⟩, hn⟩
    rw [Nat.zero_add, heap_cell hg]
    have : (cur.toList.take (xs.length * 1))[i]? = (xs.map (Value.int k))[i]? := by rw [htake]
    rw [Nat.mul_one, List.getElem?_take, if_pos hi] at this
    simpa [hi] using this

theorem Reads.take {k : IntKind} {w : World} {a : Option Addr} {xs : List Int} (h : Reads k w a xs) (n : Nat) : Reads k w a (xs.take n) := by
  rcases h with rfl | ⟨b, off, ha, hc⟩
  · exact .inl (by simp)
  · refine .inr ⟨b, off, ha, fun i hi => ?_⟩
    have h1 : i < n ∧ i < xs.length := by simp at hi; omega
    rw [hc i h1.2]
    simp [h1.1]

theorem cells_of_reads {k : IntKind} {w : World} {ad : Addr} {xs : List Int} (h : Reads k w (some ad) xs) : ∀ j u, (xs.map (Value.int k))[j]? = some u → w.cell? (ad.add j) = some u := by
  intro j u hu
  rcases h with rfl | ⟨b, off, ha, hc⟩
  · simp at hu
  · simp only [Option.some.injEq] at ha
    subst ha
    have hj : j < xs.length := by
      have := (List.getElem?_eq_some_iff.1 hu).1
      simpa using this
    have e : (⟨b, off, none⟩ : Addr).add j = ⟨b, off + j, none⟩ := by unfold Addr.add; split <;> simp_all
    rw [e, hc j hj]
    simpa [hj] using hu

theorem cell_alloc_old {w : World} {p : Addr} {v : Value} (o : Obj) (h : w.cell? p = some v) : (w.alloc o).cell? p = some v :=
  (World.cell?_of_block (Below.heap_alloc w o p.block (cell_lt h))).trans h

theorem Clone_u64_nil (w : World) : Calls Try.prog 21 #[.slice none 0 0] w (RetOwn .u64 24 [] w) := by
  have hq := fun w => Lib.run_eql_slice_nil (P := Try.prog) w 32 24 none 0 0 0 0 Try.underlying32
  go_enter Try.func21, Try.ntmps21
  go_wp2
  go_ret
  exact ⟨_, rfl, Below.refl _ _, World.ownsRow_nil _ _ _ _⟩
theorem Clone_u64_some (ad : Addr) (xs : List Int) (cap : Nat) (w : World) (h : Reads .u64 w (some ad) xs) (hn : xs.length * 8 ≤ 140737488351232) :
    Calls Try.prog 21 #[.slice (some ad) xs.length cap] w (RetOwn .u64 24 xs w) := by
  obtain ⟨i0, hi, hz0, hz1, hz2⟩ := info_parts info_u64
  have hcs := Lib.hid (cells_of_reads h)
  have hq := fun w => Lib.run_eql_slice_nil (P := Try.prog) w 32 24 (some ad) xs.length cap 0 0 Try.underlying32
  go_enter Try.func21, Try.ntmps21
  go_wp2_with (at_builtin; refine wpList_append_own _ rfl _ _ 32 rfl w.heap.size 24 i0 (.int .u64 0) 1 8 Try.underlying32 hi hz0 hz1 hz2 rfl (by decide) _ _ _ rfl (World.ownsRow_made w #[] 0 (Nat.le_refl _) (by decide) rfl) ad xs.length cap (xs.map (Value.int .u64)) rfl ?c0 ?c1 ?c2 ?c3 ?c4 ?c5 ?_)
  case c0 => simp
  case c1 => exact fun j u hj => (cell_alloc_old _ (hcs.out j u hj))
  case c2 => exact ints_oneCell _ _
  case c3 => unfold maxLen; omega
  case c4 => omega
  case c5 => simp
  · intro v' w1 hown' hgrow _
    go_wp2
    go_ret
    refine ⟨_, rfl, ?_, by simpa using hown'⟩
    exact ((Below.refl _ _).alloc (Nat.le_refl _) _).grown hgrow (by simp) (fun k e => by simp [Value.ownBlock] at e; omega)
end Go.Proofs.Ytennhifmhlmjhaa
