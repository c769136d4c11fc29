/-
  Small words for the walks of this seat.
-/
import Derived.Test.YtojcdljpgginjaaDoorProg
import Derived.WalkKit
import Derived.WalkLawsBesides
import Derived.WalkSpells
import Derived.Lib.Hide
namespace Go.Proofs.YtojcdljpgginjaaDoor
open Go Go.RowKit

theorem ret_bool {a b : Bool} (h : a = b) : Ending.returned (.bool a) = .returned (.bool b) := by rw [h]
theorem ret_int {k : IntKind} {a b : Int} (h : a = b) : Ending.returned (.int k a) = .returned (.int k b) := by rw [h]
theorem ret_int2 {k k' : IntKind} {a b a' b' : Int} (h : a = b) (h' : a' = b') : Ending.returned (.tuple #[.int k a, .int k' a']) = .returned (.tuple #[.int k b, .int k' b']) := by rw [h, h']

/-- What a contract that ends in 'Below' leaves of the old cells. -/
theorem bcell {W w1 : World} (hb : Below W.heap.size W w1) :
    (∀ b o, b < W.heap.size → w1.cell? ⟨b, o, none⟩ = W.cell? ⟨b, o, none⟩) ∧ (∀ b o, b < W.heap.size → w1.frozen? ⟨b, o, none⟩ = W.frozen? ⟨b, o, none⟩) ∧ W.heap.size ≤ w1.heap.size :=
  ⟨fun b o h => hb.cell (p := ⟨b, o, none⟩) h, fun b o h => hb.frozen (p := ⟨b, o, none⟩) h, hb.size⟩

theorem cell_lt {w : World} {p : Addr} {v : Value} (h : w.cell? p = some v) : p.block < w.heap.size := by
  apply Nat.lt_of_not_le
  intro hn
  have : w.heap[p.block]? = none := by simpa using hn
  simp [World.cell?, this] at h

/-! ### Blocks -/
theorem heap_cell {w : World} {g : Nat} {arr : Array Value} {e : TypeId} {fr : Nat × Nat} (h : w.heap[g]? = some (.cells arr e fr)) (i : Nat) : w.cell? ⟨g, i, none⟩ = arr[i]? := by
  simp [World.cell?, h]
theorem heap_free {w : World} {g : Nat} {arr : Array Value} {e : TypeId} (h : w.heap[g]? = some (.cells arr e (0, 0))) (i : Nat) : w.frozen? ⟨g, i, none⟩ = false := by
  simp [World.frozen?, h]
theorem heap_lt {w : World} {g : Nat} {o : Obj} (h : w.heap[g]? = some o) : g < w.heap.size := (Array.getElem?_eq_some_iff.1 h).1
theorem heap_set {w : World} {g : Nat} {arr : Array Value} {e : TypeId} {fr : Nat × Nat} (h : w.heap[g]? = some (.cells arr e fr)) (i : Nat) (v : Value) :
    (w.setCell ⟨g, i, none⟩ v).heap[g]? = some (.cells (arr.setIfInBounds i v) e fr) := by
  simp only [World.setCell, Array.getElem?_modify, if_pos, h]; rfl
theorem heap_set_ne {w : World} {g k : Nat} (h : k ≠ g) (i : Nat) (v : Value) : (w.setCell ⟨g, i, none⟩ v).heap[k]? = w.heap[k]? := Below.heap_setCell _ _ _ _ h
theorem heap_alloc_eq (w : World) (o : Obj) : (w.alloc o).heap[w.heap.size]? = some o := by simpa using heap_alloc_new w o
theorem heap_alloc_lt {w : World} {k : Nat} {x : Obj} (h : w.heap[k]? = some x) (o : Obj) : (w.alloc o).heap[k]? = some x := (Below.heap_alloc w o k (heap_lt h)).trans h

/-! ### What turns: new blocks, and block g alone -/
theorem grown_refl (w : World) (r : Option Nat) : w.grownBy w r := ⟨rfl, rfl, rfl, Nat.le_refl _, fun _ _ _ => rfl⟩
theorem grown_trans {a b c : World} {r : Option Nat} (h : a.grownBy b r) (k : b.grownBy c r) : a.grownBy c r :=
  ⟨k.os.trans h.os, k.tape.trans h.tape, k.output.trans h.output, Nat.le_trans h.size k.size, fun i hi hr => (k.block i (Nat.lt_of_lt_of_le hi h.size) hr).trans (h.block i hi hr)⟩
theorem grown_set (w : World) (g i : Nat) (v : Value) : w.grownBy (w.setCell ⟨g, i, none⟩ v) (some g) :=
  ⟨rfl, rfl, rfl, by simp [World.setCell], fun k _ hk => heap_set_ne (fun e => hk (by rw [e])) i v⟩
theorem grown_of_below {w w' : World} (h : Below w.heap.size w w') (r : Option Nat) : w.grownBy w' r := ⟨h.os, h.tape, h.output, h.size, fun k hk _ => h.block k hk⟩
theorem below_of_grown {w w' : World} (h : w.grownBy w' none) : Below w.heap.size w w' := ⟨h.os, h.tape, h.output, h.size, fun k hk => h.block k hk (by simp)⟩
theorem grown_alloc (w : World) (o : Obj) (r : Option Nat) : w.grownBy (w.alloc o) r := World.grownBy_alloc w o r
theorem grown_drew (w : World) (r : Option Nat) : w.grownBy w.drew r := ⟨rfl, rfl, rfl, Nat.le_refl _, fun _ _ _ => rfl⟩
theorem grown_weak {a b : World} (h : a.grownBy b none) (r : Option Nat) : a.grownBy b r := ⟨h.os, h.tape, h.output, h.size, fun k hk _ => h.block k hk (by simp)⟩
/-- What was allocated behind a's end is of no account to a. -/
theorem below_grown {B : Nat} {a w w' : World} {g : Nat} (h : Below B a w) (hg : w.grownBy w' (some g)) (hB : B ≤ w.heap.size) (hgB : B ≤ g) : Below B a w' :=
  h.grown hg hB (fun k e => by cases e; exact hgB)
/-- A step that wrote only what lies behind w's end left w's blocks alone. -/
theorem grown_new {a b c : World} {g : Nat} {r : Option Nat} (h : a.grownBy b r) (k : b.grownBy c (some g)) (hg : a.heap.size ≤ g) : a.grownBy c r :=
  ⟨k.os.trans h.os, k.tape.trans h.tape, k.output.trans h.output, Nat.le_trans h.size k.size, fun i hi hr => (k.block i (Nat.lt_of_lt_of_le hi h.size) (fun e => by cases e; omega)).trans (h.block i hi hr)⟩
/-- The old cells behind a step that wrote block g alone. -/
theorem gcell {W w1 : World} {g : Nat} (h : W.grownBy w1 (some g)) :
    (∀ b o, b < W.heap.size → b ≠ g → w1.cell? ⟨b, o, none⟩ = W.cell? ⟨b, o, none⟩) ∧ (∀ b o, b < W.heap.size → b ≠ g → w1.frozen? ⟨b, o, none⟩ = W.frozen? ⟨b, o, none⟩) ∧ W.heap.size ≤ w1.heap.size :=
  ⟨fun b o hb hn => World.cell?_of_block (a := ⟨b, o, none⟩) (h.block b hb (fun e => hn (by simpa using e))), fun b o hb hn => World.frozen?_of_block (a := ⟨b, o, none⟩) (h.block b hb (fun e => hn (by simpa using e))), h.size⟩
theorem heap_grown {W w1 : World} {g k : Nat} {o : Obj} (h : W.grownBy w1 (some g)) (hk : W.heap[k]? = some o) (hn : k ≠ g) : w1.heap[k]? = some o :=
  (h.block k (heap_lt hk) (fun e => hn (by simpa using e))).trans hk
theorem heap_below {W w1 : World} {B k : Nat} {o : Obj} (h : Below B W w1) (hk : W.heap[k]? = some o) (hB : k < B) : w1.heap[k]? = some o :=
  (h.block k hB).trans hk

/-! ### Slices that are read -/
/-- The slice at address a reads as the numbers xs. -/
def Reads (k : IntKind) (w : World) (a : Option Addr) (xs : List Int) : Prop :=
  xs = [] ∨ ∃ b off, a = some ⟨b, off, none⟩ ∧ ∀ i, i < xs.length → w.cell? ⟨b, off + i, none⟩ = some (.int k (xs.getD i 0))
theorem Reads.below {k : IntKind} {w w' : World} {a : Option Addr} {xs : List Int} (h : Reads k w a xs) (hb : Below w.heap.size w w') : Reads k w' a xs := by
  rcases h with h | ⟨b, off, ha, hc⟩
  · exact .inl h
  · exact .inr ⟨b, off, ha, fun i hi => (hb.cell (cell_lt (hc i hi))).trans (hc i hi)⟩
theorem Reads.grown {k : IntKind} {w w' : World} {a : Option Addr} {xs : List Int} {g : Nat} (h : Reads k w a xs) (hg : w.grownBy w' (some g)) (hn : ∀ q, a = some q → q.block ≠ g) : Reads k w' a xs := by
  rcases h with h | ⟨b, off, ha, hc⟩
  · exact .inl h
  · exact .inr ⟨b, off, ha, fun i hi => (World.cell?_of_block (a := ⟨b, off + i, none⟩) (hg.block b (cell_lt (hc i hi)) (by simpa using hn _ ha))).trans (hc i hi)⟩
/-- What a slice's cell holds, if it reads as xs. -/
theorem Reads.at_ {k : IntKind} {w : World} {a : Option Addr} {xs : List Int} (h : Reads k w a xs) (i : Nat) (hi : i < xs.length) :
    ∃ b off, a = some ⟨b, off, none⟩ ∧ w.cell? ⟨b, off + i, none⟩ = some (.int k (xs[i]?.getD 0)) := by
  rcases h with rfl | ⟨b, off, h, hc⟩
  · simp at hi
  · exact ⟨b, off, h, by simpa using hc i hi⟩

end Go.Proofs.YtojcdljpgginjaaDoor
