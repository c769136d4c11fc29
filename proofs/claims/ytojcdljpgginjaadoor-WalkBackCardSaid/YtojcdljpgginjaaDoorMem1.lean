/-
  The memory of package words: what it is in the model, and the contracts of its methods.
-/
import Derived.Test.YtojcdljpgginjaaDoorOwn
import Derived.Deep.QuietTactic
import Derived.BigQuiet
namespace Go.Proofs.YtojcdljpgginjaaDoor
open Go Go.RowKit

/-- The cells of a row of words. -/
abbrev u64s (xs : List Int) : Array Value := (xs.map (Value.int .u64)).toArray

/-- At block b lies a memory, its words xs in block g. -/
def MemAt (w : World) (b g : Nat) (xs : List Int) : Prop :=
  w.heap[b]? = some (.cells #[.slice (some ⟨g, 0, none⟩) xs.length xs.length] 74 (0, 0)) ∧ w.heap[g]? = some (.cells (u64s xs) 44 (0, 0)) ∧ xs.length ≤ 16384

theorem MemAt.ne {w : World} {b g : Nat} {xs : List Int} (h : MemAt w b g xs) : b ≠ g := by
  rintro rfl
  have := h.1.symm.trans h.2.1
  simp at this
theorem MemAt.below {w w' : World} {B b g : Nat} {xs : List Int} (h : MemAt w b g xs) (hb : Below B w w') (h1 : b < B) (h2 : g < B) : MemAt w' b g xs :=
  ⟨heap_below hb h.1 h1, heap_below hb h.2.1 h2, h.2.2⟩
theorem MemAt.later {w w' : World} {b g : Nat} {xs : List Int} (h : MemAt w b g xs) (hb : Below w.heap.size w w') : MemAt w' b g xs := h.below hb (heap_lt h.1) (heap_lt h.2.1)
theorem MemAt.grown {w w' : World} {b g k : Nat} {xs : List Int} (h : MemAt w b g xs) (hg : w.grownBy w' (some k)) (h1 : b ≠ k) (h2 : g ≠ k) : MemAt w' b g xs :=
  ⟨heap_grown hg h.1 h1, heap_grown hg h.2.1 h2, h.2.2⟩
theorem MemAt.cell {w : World} {b g : Nat} {xs : List Int} (h : MemAt w b g xs) : w.cell? ⟨b, 0, none⟩ = some (.slice (some ⟨g, 0, none⟩) xs.length xs.length) := by rw [heap_cell h.1]; rfl
theorem MemAt.word {w : World} {b g : Nat} {xs : List Int} (h : MemAt w b g xs) (i : Nat) (hi : i < xs.length) : w.cell? ⟨g, i, none⟩ = some (.int .u64 (xs.getD i 0)) := by
  rw [heap_cell h.2.1]; simp [hi]
theorem MemAt.free {w : World} {b g : Nat} {xs : List Int} (h : MemAt w b g xs) (i : Nat) : w.frozen? ⟨g, i, none⟩ = false := heap_free h.2.1 i
theorem MemAt.set {w : World} {b g : Nat} {xs : List Int} (h : MemAt w b g xs) (i : Nat) (v : Int) : MemAt (w.setCell ⟨g, i, none⟩ (.int .u64 v)) b g (xs.set i v) := by
  refine ⟨?_, ?_, by simpa using h.2.2⟩
  · rw [heap_set_ne h.ne]; simpa using h.1
  · rw [heap_set h.2.1]; simp [u64s, List.map_set]

/-- A row of n zeros. -/
def zrow (n : Nat) : Array Value := madeCells #[.int .u64 0] n
theorem zrow_eq (n : Nat) : zrow n = u64s (List.replicate n 0) := by
  apply Array.toList_inj.1
  simp [zrow, toList_madeCells_one]
theorem run_mk64 (n : Nat) (hn : n ≤ 16384) (w : World) :
    (Instr.makeSlice 22 (.int .i64 n) (.int .i64 n)).run Tryd.prog w = .ok (.slice (some ⟨w.heap.size, 0, none⟩) n n) (w.alloc (.cells (zrow n) 44)) := by
  obtain ⟨i0, hi, hz0, hz1, hz2⟩ := info_parts info_u64
  have := run_make (P := Tryd.prog) w 22 44 i0 (.int .u64 0) Tryd.underlying22 hi hz0 .i64 .i64 n n (by omega) (by omega) (by rw [hz2]; omega) (by omega)
  rw [this, hz1]
  simp [zrow, Value.cells]

theorem wNew_any (n : Nat) (w : World) (hn : n ≤ 16384) :
    Calls Tryd.prog 14 #[.int .i64 n] w fun e w' => e = .returned (.tuple #[.pointer (some ⟨w.heap.size + 1, 0, none⟩), .int .i64 0]) ∧ Below w.heap.size w w' ∧ MemAt w' (w.heap.size + 1) w.heap.size (List.replicate n 0) := by
  have hmk := run_mk64 n hn
  go_enter Tryd.func14, Tryd.ntmps14
  go_wp2
  go_ret2
  refine ⟨rfl, ((Below.refl _ _).alloc (Nat.le_refl _) _).alloc (by simp) _, ?_, ?_, by simpa using hn⟩
  · simpa using heap_alloc_eq (w.alloc (.cells (zrow n) 44)) (.cells #[.slice (some ⟨w.heap.size, 0, none⟩) n n] 74)
  · rw [← zrow_eq]
    exact heap_alloc_lt (heap_alloc_eq _ _) _
theorem wNew_bad (n : Int) (w : World) (h0 : n < 0 ∨ 16384 < n) :
    Calls Tryd.prog 14 #[.int .i64 n] w fun e w' => e = .returned (.tuple #[.pointer none, .int .i64 1]) ∧ w = w' := by
  rcases h0 with h0 | h0
  all_goals
    go_enter Tryd.func14, Tryd.ntmps14
    go_wp2
    go_ret2
    exact ⟨rfl, rfl⟩
/-- Is there such a word? -/
def inB (n : Nat) (i : Int) : Bool := decide (0 ≤ i ∧ i < n)
def wrE (n : Nat) (i : Int) : Int := if inB n i = true then 0 else 8
def wrL (xs : List Int) (i v : Int) : List Int := if inB xs.length i = true then xs.set i.toNat v else xs
def rdV (xs : List Int) (i : Int) : Int := if inB xs.length i = true then xs.getD i.toNat 0 else 0
theorem wrL_length (xs : List Int) (i v : Int) : (wrL xs i v).length = xs.length := by unfold wrL; split <;> simp

theorem wRead_any (b g : Nat) (xs : List Int) (i : Int) (w : World) (h : MemAt w b g xs) :
    Calls Tryd.prog 33 #[.pointer (some ⟨b, 0, none⟩), .int .i64 i] w fun e w' => e = .returned (.tuple #[.int .u64 (rdV xs i), .int .i64 (wrE xs.length i)]) ∧ w = w' := by
  have hc := h.cell
  have hl := h.2.2
  rcases (show (0 ≤ i ∧ i < xs.length) ∨ i < 0 ∨ xs.length ≤ i by omega) with ⟨h0, h1⟩ | h0 | h0
  · obtain ⟨i, rfl⟩ := Int.eq_ofNat_of_zero_le h0
    have hi : i < xs.length := by omega
    have hw := h.word i hi
    have e1 : Hid (rdV xs i = xs.getD i 0) := by show _ = _; simp [rdV, inB, hi]
    have e2 : Hid (wrE xs.length i = 0) := by show _ = _; simp [wrE, inB, hi]
    go_enter Tryd.func33, Tryd.ntmps33
    go_wp2
    go_ret2
    rw [e1.out, e2.out]
    exact ⟨by simp [hi], rfl⟩
  all_goals
    have e1 : Hid (rdV xs i = 0) := by show _ = _; simp [rdV, inB]; omega
    have e2 : Hid (wrE xs.length i = 8) := by show _ = _; simp [wrE, inB]; omega
    go_enter Tryd.func33, Tryd.ntmps33
    go_wp2
    go_ret2
    rw [e1.out, e2.out]
    exact ⟨rfl, rfl⟩
theorem wWrite_any (b g : Nat) (xs : List Int) (i v : Int) (w : World) (h : MemAt w b g xs) :
    Calls Tryd.prog 23 #[.pointer (some ⟨b, 0, none⟩), .int .i64 i, .int .u64 v] w fun e w' => e = .returned (.int .i64 (wrE xs.length i)) ∧ w.grownBy w' (some g) ∧ MemAt w' b g (wrL xs i v) := by
  have hc := h.cell
  have hl := h.2.2
  rcases (show (0 ≤ i ∧ i < xs.length) ∨ i < 0 ∨ xs.length ≤ i by omega) with ⟨h0, h1⟩ | h0 | h0
  · obtain ⟨i, rfl⟩ := Int.eq_ofNat_of_zero_le h0
    have hi : i < xs.length := by omega
    have hw := h.word i hi
    have hf := h.free i
    have e1 : Hid (wrL xs i v = xs.set i v) := by show _ = _; simp [wrL, inB, hi]
    have e2 : Hid (wrE xs.length i = 0) := by show _ = _; simp [wrE, inB, hi]
    go_enter Tryd.func23, Tryd.ntmps23
    go_wp2
    go_ret
    rw [e1.out, e2.out]
    exact ⟨rfl, grown_set _ _ _ _, h.set i v⟩
  all_goals
    have e1 : Hid (wrL xs i v = xs) := by show _ = _; simp [wrL, inB]; omega
    have e2 : Hid (wrE xs.length i = 8) := by show _ = _; simp [wrE, inB]; omega
    go_enter Tryd.func23, Tryd.ntmps23
    go_wp2
    go_ret
    rw [e1.out, e2.out]
    exact ⟨rfl, grown_refl _ _, h⟩
end Go.Proofs.YtojcdljpgginjaaDoor
