/-
  Contracts of functions of the program, laid together.
-/
import Derived.Test.YtcenagpkfimkbaaGreatDoorProg
import Derived.WalkKit
import Derived.WalkLawsBesides
import Derived.WalkSpells
import Derived.Lib.Hide
import Derived.Laws.EntriesVeiled
import Derived.Deep.QuietTactic
import Derived.BigQuiet
import Derived.Lib.AppendZerosOnto
import Derived.Laws.AppendOwnNone
import Derived.Deep.RegionHeld3
import Derived.Deep.DrawnRows
/-
  Small words for the walks of this seat.
-/
namespace Go.Proofs.YtcenagpkfimkbaaGreatDoor
open Go Go.RowKit

theorem ret_bool {a b : Bool} (h : a = b) : Ending.returned (.bool a) = .returned (.bool b) := by rw [h]
theorem ret_int {k : IntKind} {a b : Int} (h : a = b) : Ending.returned (.int k a) = .returned (.int k b) := by rw [h]
theorem ret_int2 {k k' : IntKind} {a b a' b' : Int} (h : a = b) (h' : a' = b') : Ending.returned (.tuple #[.int k a, .int k' a']) = .returned (.tuple #[.int k b, .int k' b']) := by rw [h, h']

/-- What a contract that ends in 'Below' leaves of the old cells. -/
theorem bcell {W w1 : World} (hb : Below W.heap.size W w1) :
    (∀ b o, b < W.heap.size → w1.cell? ⟨b, o, none⟩ = W.cell? ⟨b, o, none⟩) ∧ (∀ b o, b < W.heap.size → w1.frozen? ⟨b, o, none⟩ = W.frozen? ⟨b, o, none⟩) ∧ W.heap.size ≤ w1.heap.size :=
  ⟨fun b o h => hb.cell (p := ⟨b, o, none⟩) h, fun b o h => hb.frozen (p := ⟨b, o, none⟩) h, hb.size⟩

theorem cell_lt {w : World} {p : Addr} {v : Value} (h : w.cell? p = some v) : p.block < w.heap.size := by
  apply Nat.lt_of_not_le
  intro hn
  have : w.heap[p.block]? = none := by simpa using hn
  simp [World.cell?, this] at h

/-! ### Blocks -/
theorem heap_cell {w : World} {g : Nat} {arr : Array Value} {e : TypeId} {fr : Nat × Nat} (h : w.heap[g]? = some (.cells arr e fr)) (i : Nat) : w.cell? ⟨g, i, none⟩ = arr[i]? := by
  simp [World.cell?, h]
theorem heap_free {w : World} {g : Nat} {arr : Array Value} {e : TypeId} (h : w.heap[g]? = some (.cells arr e (0, 0))) (i : Nat) : w.frozen? ⟨g, i, none⟩ = false := by
  simp [World.frozen?, h]
theorem heap_lt {w : World} {g : Nat} {o : Obj} (h : w.heap[g]? = some o) : g < w.heap.size := (Array.getElem?_eq_some_iff.1 h).1
theorem heap_set {w : World} {g : Nat} {arr : Array Value} {e : TypeId} {fr : Nat × Nat} (h : w.heap[g]? = some (.cells arr e fr)) (i : Nat) (v : Value) :
    (w.setCell ⟨g, i, none⟩ v).heap[g]? = some (.cells (arr.setIfInBounds i v) e fr) := by
  simp only [World.setCell, Array.getElem?_modify, if_pos, h]; rfl
theorem heap_set_ne {w : World} {g k : Nat} (h : k ≠ g) (i : Nat) (v : Value) : (w.setCell ⟨g, i, none⟩ v).heap[k]? = w.heap[k]? := Below.heap_setCell _ _ _ _ h
theorem heap_alloc_eq (w : World) (o : Obj) : (w.alloc o).heap[w.heap.size]? = some o := by simpa using heap_alloc_new w o
theorem heap_alloc_lt {w : World} {k : Nat} {x : Obj} (h : w.heap[k]? = some x) (o : Obj) : (w.alloc o).heap[k]? = some x := (Below.heap_alloc w o k (heap_lt h)).trans h

/-! ### What turns: new blocks, and block g alone -/
theorem grown_refl (w : World) (r : Option Nat) : w.grownBy w r := ⟨rfl, rfl, rfl, Nat.le_refl _, fun _ _ _ => rfl⟩
theorem grown_trans {a b c : World} {r : Option Nat} (h : a.grownBy b r) (k : b.grownBy c r) : a.grownBy c r :=
  ⟨k.os.trans h.os, k.tape.trans h.tape, k.output.trans h.output, Nat.le_trans h.size k.size, fun i hi hr => (k.block i (Nat.lt_of_lt_of_le hi h.size) hr).trans (h.block i hi hr)⟩
theorem grown_set (w : World) (g i : Nat) (v : Value) : w.grownBy (w.setCell ⟨g, i, none⟩ v) (some g) :=
  ⟨rfl, rfl, rfl, by simp [World.setCell], fun k _ hk => heap_set_ne (fun e => hk (by rw [e])) i v⟩
theorem grown_of_below {w w' : World} (h : Below w.heap.size w w') (r : Option Nat) : w.grownBy w' r := ⟨h.os, h.tape, h.output, h.size, fun k hk _ => h.block k hk⟩
theorem below_of_grown {w w' : World} (h : w.grownBy w' none) : Below w.heap.size w w' := ⟨h.os, h.tape, h.output, h.size, fun k hk => h.block k hk (by simp)⟩
theorem grown_alloc (w : World) (o : Obj) (r : Option Nat) : w.grownBy (w.alloc o) r := World.grownBy_alloc w o r
theorem grown_drew (w : World) (r : Option Nat) : w.grownBy w.drew r := ⟨rfl, rfl, rfl, Nat.le_refl _, fun _ _ _ => rfl⟩
theorem grown_weak {a b : World} (h : a.grownBy b none) (r : Option Nat) : a.grownBy b r := ⟨h.os, h.tape, h.output, h.size, fun k hk _ => h.block k hk (by simp)⟩
/-- What was allocated behind a's end is of no account to a. -/
theorem below_grown {B : Nat} {a w w' : World} {g : Nat} (h : Below B a w) (hg : w.grownBy w' (some g)) (hB : B ≤ w.heap.size) (hgB : B ≤ g) : Below B a w' :=
  h.grown hg hB (fun k e => by cases e; exact hgB)
/-- A step that wrote only what lies behind w's end left w's blocks alone. -/
theorem grown_new {a b c : World} {g : Nat} {r : Option Nat} (h : a.grownBy b r) (k : b.grownBy c (some g)) (hg : a.heap.size ≤ g) : a.grownBy c r :=
  ⟨k.os.trans h.os, k.tape.trans h.tape, k.output.trans h.output, Nat.le_trans h.size k.size, fun i hi hr => (k.block i (Nat.lt_of_lt_of_le hi h.size) (fun e => by cases e; omega)).trans (h.block i hi hr)⟩
/-- The old cells behind a step that wrote block g alone. -/
theorem gcell {W w1 : World} {g : Nat} (h : W.grownBy w1 (some g)) :
    (∀ b o, b < W.heap.size → b ≠ g → w1.cell? ⟨b, o, none⟩ = W.cell? ⟨b, o, none⟩) ∧ (∀ b o, b < W.heap.size → b ≠ g → w1.frozen? ⟨b, o, none⟩ = W.frozen? ⟨b, o, none⟩) ∧ W.heap.size ≤ w1.heap.size :=
  ⟨fun b o hb hn => World.cell?_of_block (a := ⟨b, o, none⟩) (h.block b hb (fun e => hn (by simpa using e))), fun b o hb hn => World.frozen?_of_block (a := ⟨b, o, none⟩) (h.block b hb (fun e => hn (by simpa using e))), h.size⟩
theorem heap_grown {W w1 : World} {g k : Nat} {o : Obj} (h : W.grownBy w1 (some g)) (hk : W.heap[k]? = some o) (hn : k ≠ g) : w1.heap[k]? = some o :=
  (h.block k (heap_lt hk) (fun e => hn (by simpa using e))).trans hk
theorem heap_below {W w1 : World} {B k : Nat} {o : Obj} (h : Below B W w1) (hk : W.heap[k]? = some o) (hB : k < B) : w1.heap[k]? = some o :=
  (h.block k hB).trans hk

/-! ### Slices that are read -/
/-- The slice at address a reads as the numbers xs. -/
def Reads (k : IntKind) (w : World) (a : Option Addr) (xs : List Int) : Prop :=
  xs = [] ∨ ∃ b off, a = some ⟨b, off, none⟩ ∧ ∀ i, i < xs.length → w.cell? ⟨b, off + i, none⟩ = some (.int k (xs.getD i 0))
theorem Reads.below {k : IntKind} {w w' : World} {a : Option Addr} {xs : List Int} (h : Reads k w a xs) (hb : Below w.heap.size w w') : Reads k w' a xs := by
  rcases h with h | ⟨b, off, ha, hc⟩
  · exact .inl h
  · exact .inr ⟨b, off, ha, fun i hi => (hb.cell (cell_lt (hc i hi))).trans (hc i hi)⟩
theorem Reads.grown {k : IntKind} {w w' : World} {a : Option Addr} {xs : List Int} {g : Nat} (h : Reads k w a xs) (hg : w.grownBy w' (some g)) (hn : ∀ q, a = some q → q.block ≠ g) : Reads k w' a xs := by
  rcases h with h | ⟨b, off, ha, hc⟩
  · exact .inl h
  · exact .inr ⟨b, off, ha, fun i hi => (World.cell?_of_block (a := ⟨b, off + i, none⟩) (hg.block b (cell_lt (hc i hi)) (by simpa using hn _ ha))).trans (hc i hi)⟩
/-- What a slice's cell holds, if it reads as xs. -/
theorem Reads.at_ {k : IntKind} {w : World} {a : Option Addr} {xs : List Int} (h : Reads k w a xs) (i : Nat) (hi : i < xs.length) :
    ∃ b off, a = some ⟨b, off, none⟩ ∧ w.cell? ⟨b, off + i, none⟩ = some (.int k (xs[i]?.getD 0)) := by
  rcases h with rfl | ⟨b, off, h, hc⟩
  · simp at hi
  · exact ⟨b, off, h, by simpa using hc i hi⟩

end Go.Proofs.YtcenagpkfimkbaaGreatDoor
/-
  run.some, run.none, run.actions: what all kinds do, as values.
-/
namespace Go.Proofs.YtcenagpkfimkbaaGreatDoor
open Go Go.RowKit

/-- A function's value that captures nothing. -/
abbrev fnV (f : Nat) : Value := .func (.func f) #[] #[]
/-- One that captures one block. -/
abbrev clV (f b : Nat) : Value := .func (.func f) #[] #[.pointer (some ⟨b, 0, none⟩)]

theorem some_any (f : Nat) (w : World) :
    Calls Tryz.prog 56 #[fnV f] w fun e w' => e = .returned (.agg #[clV 100 w.heap.size]) ∧ Below w.heap.size w w' ∧ w'.cell? ⟨w.heap.size, 0, none⟩ = some (fnV f) ∧ w.heap.size < w'.heap.size := by
  go_enter Tryz.func56, Tryz.ntmps56
  go_wp2
  refine bodyPost_ret (v := .agg #[.func (.func 100) #[] #[.pointer (some ⟨w.heap.size, 0, none⟩)]]) (by simp [results, Tryz.results56, go_sem]) rfl ⟨rfl, ((Below.refl _ _).alloc (Nat.le_refl _) _).alloc (by simp) _, ?_, by simp; omega⟩
  exact (World.cell?_of_block (Below.heap_alloc _ _ w.heap.size (by simp))).trans (by simp [heap_cell (heap_alloc_eq w (.cells #[.func (.func f) #[] #[]] 148)) 0])

theorem none_any (f : Nat) (w : World) :
    Calls Tryz.prog 60 #[fnV f] w fun e w' => e = .returned (.agg #[clV 105 w.heap.size]) ∧ Below w.heap.size w w' ∧ w'.cell? ⟨w.heap.size, 0, none⟩ = some (fnV f) ∧ w.heap.size < w'.heap.size := by
  go_enter Tryz.func60, Tryz.ntmps60
  go_wp2
  refine bodyPost_ret (v := .agg #[.func (.func 105) #[] #[.pointer (some ⟨w.heap.size, 0, none⟩)]]) (by simp [results, Tryz.results60, go_sem]) rfl ⟨rfl, ((Below.refl _ _).alloc (Nat.le_refl _) _).alloc (by simp) _, ?_, by simp; omega⟩
  exact (World.cell?_of_block (Below.heap_alloc _ _ w.heap.size (by simp))).trans (by simp [heap_cell (heap_alloc_eq w (.cells #[.func (.func f) #[] #[]] 151)) 0])

/-- Sixteen cells are written, one after the other. -/
def set16 (w : World) (g : Nat) (v0 v1 v2 v3 v4 v5 v6 v7 v8 v9 v10 v11 v12 v13 v14 v15 : Value) : World :=
  (((((((((((((((w.setCell ⟨g, 0, none⟩ v0).setCell ⟨g, 1, none⟩ v1).setCell ⟨g, 2, none⟩ v2).setCell ⟨g, 3, none⟩ v3).setCell ⟨g, 4, none⟩ v4).setCell ⟨g, 5, none⟩ v5).setCell ⟨g, 6, none⟩ v6).setCell ⟨g, 7, none⟩ v7).setCell ⟨g, 8, none⟩ v8).setCell ⟨g, 9, none⟩ v9).setCell ⟨g, 10, none⟩ v10).setCell ⟨g, 11, none⟩ v11).setCell ⟨g, 12, none⟩ v12).setCell ⟨g, 13, none⟩ v13).setCell ⟨g, 14, none⟩ v14).setCell ⟨g, 15, none⟩ v15
theorem set16_at {w : World} {g : Nat} {u0 u1 u2 u3 u4 u5 u6 u7 u8 u9 u10 u11 u12 u13 u14 u15 : Value} {t : TypeId} (h : w.heap[g]? = some (.cells #[u0, u1, u2, u3, u4, u5, u6, u7, u8, u9, u10, u11, u12, u13, u14, u15] t (0, 0))) (v0 v1 v2 v3 v4 v5 v6 v7 v8 v9 v10 v11 v12 v13 v14 v15 : Value) :
    (set16 w g v0 v1 v2 v3 v4 v5 v6 v7 v8 v9 v10 v11 v12 v13 v14 v15).heap[g]? = some (.cells #[v0, v1, v2, v3, v4, v5, v6, v7, v8, v9, v10, v11, v12, v13, v14, v15] t (0, 0)) ∧ w.grownBy (set16 w g v0 v1 v2 v3 v4 v5 v6 v7 v8 v9 v10 v11 v12 v13 v14 v15) (some g) := by
  refine ⟨?_, ?_⟩
  · have := heap_set (heap_set (heap_set (heap_set (heap_set (heap_set (heap_set (heap_set (heap_set (heap_set (heap_set (heap_set (heap_set (heap_set (heap_set (heap_set h 0 v0) 1 v1) 2 v2) 3 v3) 4 v4) 5 v5) 6 v6) 7 v7) 8 v8) 9 v9) 10 v10) 11 v11) 12 v12) 13 v13) 14 v14) 15 v15
    simpa [set16] using this
  · exact grown_trans (grown_trans (grown_trans (grown_trans (grown_trans (grown_trans (grown_trans (grown_trans (grown_trans (grown_trans (grown_trans (grown_trans (grown_trans (grown_trans (grown_trans (grown_set w g 0 v0) (grown_set _ g 1 v1)) (grown_set _ g 2 v2)) (grown_set _ g 3 v3)) (grown_set _ g 4 v4)) (grown_set _ g 5 v5)) (grown_set _ g 6 v6)) (grown_set _ g 7 v7)) (grown_set _ g 8 v8)) (grown_set _ g 9 v9)) (grown_set _ g 10 v10)) (grown_set _ g 11 v11)) (grown_set _ g 12 v12)) (grown_set _ g 13 v13)) (grown_set _ g 14 v14)) (grown_set _ g 15 v15)
/-- What actions answers. -/
def ActsOut (w : World) (e : Ending) (w' : World) : Prop :=
  ∃ b1 b3 b6 b7 b8 b9 b10 b11 b12 b13 b14 b15 : Nat, e = .returned (.agg #[.nilFunc, clV 100 b1, fnV 59, clV 105 b3, fnV 63, fnV 64, clV 105 b6, clV 100 b7, clV 105 b8, clV 100 b9, clV 105 b10, clV 105 b11, clV 105 b12, clV 100 b13, clV 100 b14, clV 100 b15]) ∧ Below w.heap.size w w' ∧ (w'.cell? ⟨b1, 0, none⟩ = some (fnV 57) ∧ w.heap.size < b1) ∧ (w'.cell? ⟨b3, 0, none⟩ = some (fnV 61) ∧ w.heap.size < b3) ∧ (w'.cell? ⟨b6, 0, none⟩ = some (fnV 65) ∧ w.heap.size < b6) ∧ (w'.cell? ⟨b7, 0, none⟩ = some (fnV 67) ∧ w.heap.size < b7) ∧ (w'.cell? ⟨b8, 0, none⟩ = some (fnV 69) ∧ w.heap.size < b8) ∧ (w'.cell? ⟨b9, 0, none⟩ = some (fnV 71) ∧ w.heap.size < b9) ∧ (w'.cell? ⟨b10, 0, none⟩ = some (fnV 73) ∧ w.heap.size < b10) ∧ (w'.cell? ⟨b11, 0, none⟩ = some (fnV 75) ∧ w.heap.size < b11) ∧ (w'.cell? ⟨b12, 0, none⟩ = some (fnV 77) ∧ w.heap.size < b12) ∧ (w'.cell? ⟨b13, 0, none⟩ = some (fnV 79) ∧ w.heap.size < b13) ∧ (w'.cell? ⟨b14, 0, none⟩ = some (fnV 81) ∧ w.heap.size < b14) ∧ (w'.cell? ⟨b15, 0, none⟩ = some (fnV 83) ∧ w.heap.size < b15)

set_option maxRecDepth 100000 in
set_option maxHeartbeats 4000000 in
theorem actions_any (w : World) : Calls Tryz.prog 29 #[] w (ActsOut w) := by
  go_enter Tryz.func29, Tryz.ntmps29
  go_wp2_with fail
  refine (some_any _ _).mono ?_
  rintro e w1 ⟨rfl, hb1, hc1, hl1⟩
  have hb0 : Below w.heap.size w w1 := ((Below.refl _ _).alloc (Nat.le_refl _) _).trans (hb1.mono (by simp))
  go_wp2_with fail
  refine (none_any _ _).mono ?_
  rintro e w3 ⟨rfl, hb3, hc3, hl3⟩
  go_wp2_with fail
  refine (none_any _ _).mono ?_
  rintro e w6 ⟨rfl, hb6, hc6, hl6⟩
  go_wp2_with fail
  refine (some_any _ _).mono ?_
  rintro e w7 ⟨rfl, hb7, hc7, hl7⟩
  go_wp2_with fail
  refine (none_any _ _).mono ?_
  rintro e w8 ⟨rfl, hb8, hc8, hl8⟩
  go_wp2_with fail
  refine (some_any _ _).mono ?_
  rintro e w9 ⟨rfl, hb9, hc9, hl9⟩
  go_wp2_with fail
  refine (none_any _ _).mono ?_
  rintro e w10 ⟨rfl, hb10, hc10, hl10⟩
  go_wp2_with fail
  refine (none_any _ _).mono ?_
  rintro e w11 ⟨rfl, hb11, hc11, hl11⟩
  go_wp2_with fail
  refine (none_any _ _).mono ?_
  rintro e w12 ⟨rfl, hb12, hc12, hl12⟩
  go_wp2_with fail
  refine (some_any _ _).mono ?_
  rintro e w13 ⟨rfl, hb13, hc13, hl13⟩
  go_wp2_with fail
  refine (some_any _ _).mono ?_
  rintro e w14 ⟨rfl, hb14, hc14, hl14⟩
  go_wp2_with fail
  refine (some_any _ _).mono ?_
  rintro e w15 ⟨rfl, hb15, hc15, hl15⟩
  have B15 : Below w15.heap.size w15 w15 := Below.refl _ _
  have B14 : Below w14.heap.size w14 w15 := hb15.trans (B15.mono hb15.size)
  have B13 : Below w13.heap.size w13 w15 := hb14.trans (B14.mono hb14.size)
  have B12 : Below w12.heap.size w12 w15 := hb13.trans (B13.mono hb13.size)
  have B11 : Below w11.heap.size w11 w15 := hb12.trans (B12.mono hb12.size)
  have B10 : Below w10.heap.size w10 w15 := hb11.trans (B11.mono hb11.size)
  have B9 : Below w9.heap.size w9 w15 := hb10.trans (B10.mono hb10.size)
  have B8 : Below w8.heap.size w8 w15 := hb9.trans (B9.mono hb9.size)
  have B7 : Below w7.heap.size w7 w15 := hb8.trans (B8.mono hb8.size)
  have B6 : Below w6.heap.size w6 w15 := hb7.trans (B7.mono hb7.size)
  have B3 : Below w3.heap.size w3 w15 := hb6.trans (B6.mono hb6.size)
  have B1 : Below w1.heap.size w1 w15 := hb3.trans (B3.mono hb3.size)
  have oX : w15.heap[w.heap.size]? = some (.cells #[.nilFunc, .nilFunc, .nilFunc, .nilFunc, .nilFunc, .nilFunc, .nilFunc, .nilFunc, .nilFunc, .nilFunc, .nilFunc, .nilFunc, .nilFunc, .nilFunc, .nilFunc, .nilFunc] 94 (0, 0)) := (B1.block _ (by have := hb1.size; simp at this; omega)).trans ((hb1.block _ (by simp)).trans (heap_alloc_eq _ _))
  have hbw : Below w.heap.size w w15 := hb0.trans (B1.mono hb0.size)
  have g1 := (B1.cell (cell_lt hc1)).trans hc1
  have g3 := (B3.cell (cell_lt hc3)).trans hc3
  have g6 := (B6.cell (cell_lt hc6)).trans hc6
  have g7 := (B7.cell (cell_lt hc7)).trans hc7
  have g8 := (B8.cell (cell_lt hc8)).trans hc8
  have g9 := (B9.cell (cell_lt hc9)).trans hc9
  have g10 := (B10.cell (cell_lt hc10)).trans hc10
  have g11 := (B11.cell (cell_lt hc11)).trans hc11
  have g12 := (B12.cell (cell_lt hc12)).trans hc12
  have g13 := (B13.cell (cell_lt hc13)).trans hc13
  have g14 := (B14.cell (cell_lt hc14)).trans hc14
  have g15 := (B15.cell (cell_lt hc15)).trans hc15
  have H := Lib.hid (And.intro hbw (And.intro g1 (And.intro g3 (And.intro g6 (And.intro g7 (And.intro g8 (And.intro g9 (And.intro g10 (And.intro g11 (And.intro g12 (And.intro g13 (And.intro g14 (And.intro g15 oX)))))))))))))
  have c0 := heap_cell oX 0
  have f0 := heap_free oX 0
  have c1 := heap_cell oX 1
  have f1 := heap_free oX 1
  have c2 := heap_cell oX 2
  have f2 := heap_free oX 2
  have c3 := heap_cell oX 3
  have f3 := heap_free oX 3
  have c4 := heap_cell oX 4
  have f4 := heap_free oX 4
  have c5 := heap_cell oX 5
  have f5 := heap_free oX 5
  have c6 := heap_cell oX 6
  have f6 := heap_free oX 6
  have c7 := heap_cell oX 7
  have f7 := heap_free oX 7
  have c8 := heap_cell oX 8
  have f8 := heap_free oX 8
  have c9 := heap_cell oX 9
  have f9 := heap_free oX 9
  have c10 := heap_cell oX 10
  have f10 := heap_free oX 10
  have c11 := heap_cell oX 11
  have f11 := heap_free oX 11
  have c12 := heap_cell oX 12
  have f12 := heap_free oX 12
  have c13 := heap_cell oX 13
  have f13 := heap_free oX 13
  have c14 := heap_cell oX 14
  have f14 := heap_free oX 14
  have c15 := heap_cell oX 15
  have f15 := heap_free oX 15
  simp at c0 c1 c2 c3 c4 c5 c6 c7 c8 c9 c10 c11 c12 c13 c14 c15
  have s3 := hb3.size; have s6 := hb6.size; have s7 := hb7.size; have s8 := hb8.size; have s9 := hb9.size; have s10 := hb10.size; have s11 := hb11.size; have s12 := hb12.size; have s13 := hb13.size; have s14 := hb14.size; have s15 := hb15.size; have s1 := hb1.size; simp at s1
  have HS : Hid (w.heap.size < w1.heap.size ∧ w.heap.size < w3.heap.size ∧ w.heap.size < w6.heap.size ∧ w.heap.size < w7.heap.size ∧ w.heap.size < w8.heap.size ∧ w.heap.size < w9.heap.size ∧ w.heap.size < w10.heap.size ∧ w.heap.size < w11.heap.size ∧ w.heap.size < w12.heap.size ∧ w.heap.size < w13.heap.size ∧ w.heap.size < w14.heap.size ∧ w.heap.size < w15.heap.size) := Lib.hid ⟨by omega, by omega, by omega, by omega, by omega, by omega, by omega, by omega, by omega, by omega, by omega, by omega⟩
  clear s1 s3 s6 s7 s8 s9 s10 s11 s12 s13 s14 s15
  clear hbw hb0 oX hb1 hc1 hl1 g1 B1 hb3 hc3 hl3 g3 B3 hb6 hc6 hl6 g6 B6 hb7 hc7 hl7 g7 B7 hb8 hc8 hl8 g8 B8 hb9 hc9 hl9 g9 B9 hb10 hc10 hl10 g10 B10 hb11 hc11 hl11 g11 B11 hb12 hc12 hl12 g12 B12 hb13 hc13 hl13 g13 B13 hb14 hc14 hl14 g14 B14 hb15 hc15 hl15 g15 B15
  go_wp2_with fail
  have h16 := set16_at H.out.2.2.2.2.2.2.2.2.2.2.2.2.2 (.nilFunc) (clV 100 (w.heap.size + 1)) (fnV 59) (clV 105 w1.heap.size) (fnV 63) (fnV 64) (clV 105 w3.heap.size) (clV 100 w6.heap.size) (clV 105 w7.heap.size) (clV 100 w8.heap.size) (clV 105 w9.heap.size) (clV 105 w10.heap.size) (clV 105 w11.heap.size) (clV 100 w12.heap.size) (clV 100 w13.heap.size) (clV 100 w14.heap.size)
  have e16 : Hid (set16 w15 w.heap.size (.nilFunc) (clV 100 (w.heap.size + 1)) (fnV 59) (clV 105 w1.heap.size) (fnV 63) (fnV 64) (clV 105 w3.heap.size) (clV 100 w6.heap.size) (clV 105 w7.heap.size) (clV 100 w8.heap.size) (clV 105 w9.heap.size) (clV 105 w10.heap.size) (clV 105 w11.heap.size) (clV 100 w12.heap.size) (clV 100 w13.heap.size) (clV 100 w14.heap.size) = set16 w15 w.heap.size (.nilFunc) (clV 100 (w.heap.size + 1)) (fnV 59) (clV 105 w1.heap.size) (fnV 63) (fnV 64) (clV 105 w3.heap.size) (clV 100 w6.heap.size) (clV 105 w7.heap.size) (clV 100 w8.heap.size) (clV 105 w9.heap.size) (clV 105 w10.heap.size) (clV 105 w11.heap.size) (clV 100 w12.heap.size) (clV 100 w13.heap.size) (clV 100 w14.heap.size)) := Lib.hid rfl
  change bodyPost _ _ _ _ _ (set16 w15 w.heap.size (.nilFunc) (clV 100 (w.heap.size + 1)) (fnV 59) (clV 105 w1.heap.size) (fnV 63) (fnV 64) (clV 105 w3.heap.size) (clV 100 w6.heap.size) (clV 105 w7.heap.size) (clV 100 w8.heap.size) (clV 105 w9.heap.size) (clV 105 w10.heap.size) (clV 105 w11.heap.size) (clV 100 w12.heap.size) (clV 100 w13.heap.size) (clV 100 w14.heap.size))
  generalize set16 w15 w.heap.size (.nilFunc) (clV 100 (w.heap.size + 1)) (fnV 59) (clV 105 w1.heap.size) (fnV 63) (fnV 64) (clV 105 w3.heap.size) (clV 100 w6.heap.size) (clV 105 w7.heap.size) (clV 100 w8.heap.size) (clV 105 w9.heap.size) (clV 105 w10.heap.size) (clV 105 w11.heap.size) (clV 100 w12.heap.size) (clV 100 w13.heap.size) (clV 100 w14.heap.size) = Z at h16 ⊢
  obtain ⟨oZ, gZ⟩ := h16
  clear e16
  have HZ := Lib.hid (And.intro oZ gZ)
  have z0 := heap_cell oZ 0
  have z1 := heap_cell oZ 1
  have z2 := heap_cell oZ 2
  have z3 := heap_cell oZ 3
  have z4 := heap_cell oZ 4
  have z5 := heap_cell oZ 5
  have z6 := heap_cell oZ 6
  have z7 := heap_cell oZ 7
  have z8 := heap_cell oZ 8
  have z9 := heap_cell oZ 9
  have z10 := heap_cell oZ 10
  have z11 := heap_cell oZ 11
  have z12 := heap_cell oZ 12
  have z13 := heap_cell oZ 13
  have z14 := heap_cell oZ 14
  have z15 := heap_cell oZ 15
  simp at z0 z1 z2 z3 z4 z5 z6 z7 z8 z9 z10 z11 z12 z13 z14 z15
  clear oZ gZ
  refine bodyPost_ret (v := .agg #[.nilFunc, clV 100 (w.heap.size + 1), fnV 59, clV 105 w1.heap.size, fnV 63, fnV 64, clV 105 w3.heap.size, clV 100 w6.heap.size, clV 105 w7.heap.size, clV 100 w8.heap.size, clV 105 w9.heap.size, clV 105 w10.heap.size, clV 105 w11.heap.size, clV 100 w12.heap.size, clV 100 w13.heap.size, clV 100 w14.heap.size]) (by simp [results, Tryz.results29, go_sem, z0, z1, z2, z3, z4, z5, z6, z7, z8, z9, z10, z11, z12, z13, z14, z15]) rfl ?_
  obtain ⟨q1, q3, q6, q7, q8, q9, q10, q11, q12, q13, q14, q15⟩ := HS.out
  have hb := H.out.1.grown HZ.out.2 H.out.1.size (fun k e => by cases e; exact Nat.le_refl _)
  have hk := fun (b : Nat) (v : Value) (hb : w.heap.size < b) (h : w15.cell? ⟨b, 0, none⟩ = some v) => (World.cell?_of_block (a := ⟨b, 0, none⟩) (HZ.out.2.block b (cell_lt h) (by simp; omega))).trans h
  exact ⟨(w.heap.size + 1), w1.heap.size, w3.heap.size, w6.heap.size, w7.heap.size, w8.heap.size, w9.heap.size, w10.heap.size, w11.heap.size, w12.heap.size, w13.heap.size, w14.heap.size, rfl, hb, ⟨hk _ _ (by omega) (by have h := H.out.2.1; rw [show (w.alloc (.cells #[.nilFunc, .nilFunc, .nilFunc, .nilFunc, .nilFunc, .nilFunc, .nilFunc, .nilFunc, .nilFunc, .nilFunc, .nilFunc, .nilFunc, .nilFunc, .nilFunc, .nilFunc, .nilFunc] 94)).heap.size = w.heap.size + 1 by simp] at h; exact h), by omega⟩, ⟨hk _ _ (by omega) H.out.2.2.1, by omega⟩, ⟨hk _ _ (by omega) H.out.2.2.2.1, by omega⟩, ⟨hk _ _ (by omega) H.out.2.2.2.2.1, by omega⟩, ⟨hk _ _ (by omega) H.out.2.2.2.2.2.1, by omega⟩, ⟨hk _ _ (by omega) H.out.2.2.2.2.2.2.1, by omega⟩, ⟨hk _ _ (by omega) H.out.2.2.2.2.2.2.2.1, by omega⟩, ⟨hk _ _ (by omega) H.out.2.2.2.2.2.2.2.2.1, by omega⟩, ⟨hk _ _ (by omega) H.out.2.2.2.2.2.2.2.2.2.1, by omega⟩, ⟨hk _ _ (by omega) H.out.2.2.2.2.2.2.2.2.2.2.1, by omega⟩, ⟨hk _ _ (by omega) H.out.2.2.2.2.2.2.2.2.2.2.2.1, by omega⟩, ⟨hk _ _ (by omega) H.out.2.2.2.2.2.2.2.2.2.2.2.2.1, by omega⟩⟩
end Go.Proofs.YtcenagpkfimkbaaGreatDoor
/-
  Slices of numbers: what they read as, what is new and owned.
-/
namespace Go.Proofs.YtcenagpkfimkbaaGreatDoor
open Go Go.RowKit

theorem info_int : (Tryz.prog.info? 3).map (fun i => (i.zero, i.size, i.bytes)) = some (some (.int .i64 0), 1, 8) := by kernel_rfl

/-- A call returns a slice of its own, in new memory, that holds the numbers xs. -/
def RetOwn (k : IntKind) (t : TypeId) (xs : List Int) (w : World) (e : Ending) (w' : World) : Prop :=
  ∃ v, e = .returned v ∧ Below w.heap.size w w' ∧ w'.ownsRow w.heap.size t 1 v xs.length (xs.map (Value.int k))

theorem owns_reads {k : IntKind} {t : TypeId} {w : World} {B : Nat} {v : Value} {xs : List Int} (h : w.ownsRow B t 1 v xs.length (xs.map (Value.int k))) :
    ∃ a cap, v = .slice a xs.length cap ∧ Reads k w a xs ∧ (∀ g, a = some g → B ≤ g.block ∧ g.block < w.heap.size) ∧ xs.length ≤ cap := by
  rcases h.2 with ⟨rfl, h0⟩ | ⟨g, cap, cur, rfl, hB, hg, hn, hcap, hsz, htake⟩
  · have : xs = [] := List.length_eq_zero_iff.1 h0
    subst this
    exact ⟨none, 0, rfl, .inl rfl, by simp, by simp⟩
  · refine ⟨some ⟨g, 0, none⟩, cap, rfl, .inr ⟨g, 0, rfl, fun i hi => ?_⟩, fun q hq => by cases hq; exact ⟨hB, heap_lt hg⟩, hn⟩
    rw [Nat.zero_add, heap_cell hg]
    have : (cur.toList.take (xs.length * 1))[i]? = (xs.map (Value.int k))[i]? := by rw [htake]
    rw [Nat.mul_one, List.getElem?_take, if_pos hi] at this
    simpa [hi] using this

theorem Reads.take {k : IntKind} {w : World} {a : Option Addr} {xs : List Int} (h : Reads k w a xs) (n : Nat) : Reads k w a (xs.take n) := by
  rcases h with rfl | ⟨b, off, ha, hc⟩
  · exact .inl (by simp)
  · refine .inr ⟨b, off, ha, fun i hi => ?_⟩
    have h1 : i < n ∧ i < xs.length := by simp at hi; omega
    rw [hc i h1.2]
    simp [h1.1]

theorem cells_of_reads {k : IntKind} {w : World} {ad : Addr} {xs : List Int} (h : Reads k w (some ad) xs) : ∀ j u, (xs.map (Value.int k))[j]? = some u → w.cell? (ad.add j) = some u := by
  intro j u hu
  rcases h with rfl | ⟨b, off, ha, hc⟩
  · simp at hu
  · simp only [Option.some.injEq] at ha
    subst ha
    have hj : j < xs.length := by
      have := (List.getElem?_eq_some_iff.1 hu).1
      simpa using this
    have e : (⟨b, off, none⟩ : Addr).add j = ⟨b, off + j, none⟩ := by unfold Addr.add; split <;> simp_all
    rw [e, hc j hj]
    simpa [hj] using hu

theorem cell_alloc_old {w : World} {p : Addr} {v : Value} (o : Obj) (h : w.cell? p = some v) : (w.alloc o).cell? p = some v :=
  (World.cell?_of_block (Below.heap_alloc w o p.block (cell_lt h))).trans h

/-! ### What a step may turn: the blocks of S, and new ones -/
structure Moved (S : Nat → Prop) (a b : World) : Prop where
  os : b.os = a.os
  tape : b.tape = a.tape
  output : b.output = a.output
  size : a.heap.size ≤ b.heap.size
  block : ∀ k, k < a.heap.size → ¬ S k → b.heap[k]? = a.heap[k]?
theorem Moved.refl (S : Nat → Prop) (w : World) : Moved S w w := ⟨rfl, rfl, rfl, Nat.le_refl _, fun _ _ _ => rfl⟩
theorem Moved.trans {S T : Nat → Prop} {a b c : World} (h : Moved S a b) (k : Moved T b c) (ht : ∀ q, T q → S q ∨ a.heap.size ≤ q) : Moved S a c :=
  ⟨k.os.trans h.os, k.tape.trans h.tape, k.output.trans h.output, Nat.le_trans h.size k.size, fun q hq hs => (k.block q (Nat.lt_of_lt_of_le hq h.size) (fun e => (ht q e).elim hs (fun e2 => by omega))).trans (h.block q hq hs)⟩
theorem Moved.of_below {a b : World} (h : Below a.heap.size a b) (S : Nat → Prop) : Moved S a b := ⟨h.os, h.tape, h.output, h.size, fun k hk _ => h.block k hk⟩
theorem Moved.of_grown {a b : World} {r : Option Nat} (h : a.grownBy b r) {S : Nat → Prop} (hr : ∀ k, r = some k → S k) : Moved S a b := ⟨h.os, h.tape, h.output, h.size, fun k hk hs => h.block k hk (fun e => hs (hr k e.symm))⟩
theorem Moved.of_set (a : World) (g i : Nat) (v : Value) {S : Nat → Prop} (hr : S g) : Moved S a (a.setCell ⟨g, i, none⟩ v) := .of_grown (grown_set a g i v) (fun k e => by cases e; exact hr)
theorem Moved.drew (S : Nat → Prop) (a : World) : Moved S a a.drew := ⟨rfl, rfl, rfl, Nat.le_refl _, fun _ _ _ => rfl⟩
theorem Moved.drewN (S : Nat → Prop) (a : World) (n : Nat) : Moved S a (a.drewN n) := ⟨rfl, rfl, rfl, Nat.le_refl _, fun _ _ _ => rfl⟩
theorem Moved.alloc (S : Nat → Prop) (a : World) (o : Obj) : Moved S a (a.alloc o) := .of_grown (grown_alloc a o none) (fun k e => by cases e)
theorem Moved.below {S : Nat → Prop} {B : Nat} {a b c : World} (h : Below B a b) (k : Moved S b c) (hB : B ≤ b.heap.size) (hs : ∀ q, S q → B ≤ q) : Below B a c :=
  ⟨k.os.trans h.os, k.tape.trans h.tape, k.output.trans h.output, Nat.le_trans h.size k.size, fun q hq => (k.block q (Nat.lt_of_lt_of_le hq hB) (fun e => by have := hs q e; omega)).trans (h.block q hq)⟩
theorem Moved.cell {S : Nat → Prop} {a b : World} (h : Moved S a b) {p : Addr} {v : Value} (hc : a.cell? p = some v) (hs : ¬ S p.block) : b.cell? p = some v :=
  (World.cell?_of_block (h.block p.block (cell_lt hc) hs)).trans hc
theorem Moved.heap {S : Nat → Prop} {a b : World} (h : Moved S a b) {k : Nat} {o : Obj} (hc : a.heap[k]? = some o) (hs : ¬ S k) : b.heap[k]? = some o :=
  (h.block k (heap_lt hc) hs).trans hc
theorem Moved.reads {S : Nat → Prop} {a b : World} (h : Moved S a b) {k : IntKind} {p : Option Addr} {xs : List Int} (hr : Reads k a p xs) (hs : ∀ q, p = some q → ¬ S q.block) : Reads k b p xs := by
  rcases hr with e | ⟨g, off, rfl, hc⟩
  · exact .inl e
  · exact .inr ⟨g, off, rfl, fun i hi => h.cell (hc i hi) (show ¬ S g from hs _ rfl)⟩
theorem Moved.owns {S : Nat → Prop} {a b : World} (h : Moved S a b) {B : Nat} {t : TypeId} {size : Nat} {v : Value} {n : Nat} {xs : List Value} (ho : a.ownsRow B t size v n xs) (hs : ∀ k, v.ownBlock = some k → ¬ S k) : b.ownsRow B t size v n xs := by
  refine ⟨ho.1, ?_⟩
  rcases ho.2 with hn | ⟨g, cap, cur, rfl, hb, hgg, rest⟩
  · exact .inl hn
  · exact .inr ⟨g, cap, cur, rfl, hb, h.heap hgg (hs g rfl), rest⟩

/-- A row's head: its first k. -/
theorem owns_take {w : World} {B : Nat} {t : TypeId} {size : Nat} {a : Option Addr} {cap n : Nat} {xs : List Value} (h : w.ownsRow B t size (.slice a n cap) n xs) (k : Nat) (hk : k ≤ n) : w.ownsRow B t size (.slice a k cap) k (xs.take (k * size)) := by
  have hl : (xs.take (k * size)).length = k * size := by
    rw [List.length_take, h.1]
    exact Nat.min_eq_left (Nat.mul_le_mul_right _ hk)
  rcases h.2 with ⟨h0, rfl⟩ | ⟨g, cap', cur, h0, hb, hg, hn, hm, hs, ht⟩
  · obtain rfl : k = 0 := by omega
    cases h0
    exact ⟨hl, .inl ⟨rfl, rfl⟩⟩
  · cases h0
    refine ⟨hl, .inr ⟨g, _, cur, rfl, hb, hg, Nat.le_trans hk hn, hm, hs, ?_⟩⟩
    rw [← ht, List.take_take, Nat.min_eq_left (Nat.mul_le_mul_right _ hk)]
theorem owns_slice {w : World} {B : Nat} {t : TypeId} {size : Nat} {v : Value} {n : Nat} {xs : List Value} (h : w.ownsRow B t size v n xs) : ∃ a cap, v = .slice a n cap ∧ n ≤ cap ∧ (a = none → n = 0 ∧ cap = 0) ∧ (∀ q, a = some q → ∃ g, q = ⟨g, 0, none⟩) := by
  rcases h.2 with ⟨rfl, rfl⟩ | ⟨g, cap, cur, rfl, _, _, hn, _⟩
  · exact ⟨none, 0, rfl, by simp, by simp, by simp⟩
  · exact ⟨some ⟨g, 0, none⟩, cap, rfl, hn, by simp, fun q e => ⟨g, by cases e; rfl⟩⟩
theorem owns_len {w : World} {B : Nat} {t : TypeId} {size : Nat} {v : Value} {n : Nat} {xs : List Value} (h : w.ownsRow B t size v n xs) : xs.length = n * size := h.1

/-- append(v, make([]T, m)...): elements of one cell. -/
theorem run_append_zeros1 {P : Program} (w : World) (base : Nat) (t ti ty e : TypeId) (i : TypeInfo) (z : Value) (bytes : Nat) (ht : P.underlying t = some (.slice e)) {k : IntKind} (hti : P.underlying ti = some (.int k)) (hi : P.info? e = some i) (hz : i.zero = some z)
    (hsize : i.size = 1) (hby : i.bytes = bytes) (hzs : z.cells = #[z]) (h1 : z.oneCell' = true) (hb0 : 0 < bytes)
    (v : Value) (n : Nat) (xs : List Value) (hown : w.ownsRow base e 1 v n xs) (kx : IntKind) (m : Nat)
    (hbytes : (n + m) * bytes ≤ 140737488355328) (hbase : base ≤ w.heap.size) :
    ∃ v' w', (Builtin.append_ #[t, ti] ty #[v, .int kx m]).run P w = .ok v' w' ∧ w'.ownsRow base e 1 v' (n + m) (xs ++ List.replicate m z) ∧ w.grownBy w' v.ownBlock ∧
      (v'.ownBlock = v.ownBlock ∨ v'.ownBlock = some w.heap.size) := by
  subst hby
  have hle : n + m ≤ 140737488355328 := Nat.le_trans (Nat.le_mul_of_pos_right _ hb0) hbytes
  have h63 : n + m ≤ maxLen := by simp only [maxLen]; omega
  have hw : IntKind.i64.wrap (m : Int) = m := by rw [IntKind.wrap_i64]; omega
  have hw0 : IntKind.i64.wrap 0 = 0 := by rw [IntKind.wrap_i64]; rfl
  have hneg : ¬ ((m : Int) < 0) := by omega
  have hmb : m * i.bytes ≤ 140737488355328 := Nat.le_trans (Nat.mul_le_mul_right _ (Nat.le_add_left m n)) hbytes
  have hbig : ¬ (281474976710656 < (m : Int) * (i.bytes : Int)) := by
    rw [← Int.natCast_mul]
    omega
  have hzc : ∀ q, Builtin.zeroCells z.cells q = (List.replicate q z).toArray := by
    intro q
    apply Array.toList_inj.1
    rw [show Builtin.zeroCells z.cells q = madeCells z.cells (q * 1) by unfold Builtin.zeroCells madeCells; rw [hzs]; rfl, hzs, Nat.mul_one]
    simp [toList_madeCells_one]
  have hlen : (xs ++ List.replicate m z).length = (n + m) * 1 := by rw [List.length_append, hown.1, List.length_replicate]; omega
  have grown : ∀ (old : Nat), old < n + m → ∀ (row : Option Nat),
      (w.drew.alloc (.cells (xs.toArray ++ Builtin.zeroCells z.cells m ++ Builtin.zeroCells z.cells (grownCap w (n + m) old e - (n + m))) e)).ownsRow base e 1
        (.slice (some ⟨w.heap.size, 0, none⟩) (n + m) (grownCap w (n + m) old e)) (n + m) (xs ++ List.replicate m z) ∧
      w.grownBy (w.drew.alloc (.cells (xs.toArray ++ Builtin.zeroCells z.cells m ++ Builtin.zeroCells z.cells (grownCap w (n + m) old e - (n + m))) e)) row := by
    intro old ho row
    have hge := grownCap_ge w (n + m) old e
    have hcm : grownCap w (n + m) old e ≤ maxLen := grownCap_le_maxLen w (n + m) old e h63
    refine ⟨⟨hlen, .inr ⟨w.heap.size, _, _, rfl, hbase, heap_alloc_new w.drew _, hge, hcm, ?_, ?_⟩⟩, ⟨rfl, rfl, rfl, by simp, fun k hk _ => heap_alloc_old w.drew _ hk⟩⟩
    · simp only [Array.size_append, List.size_toArray, size_zeroCells, hzs, hown.1]
      simp
      omega
    · simp only [Array.toList_append, hzc, List.append_assoc]
      rw [← List.append_assoc, ← hlen]
      exact List.take_left
  rcases hown.2 with ⟨rfl, rfl⟩ | ⟨g, cap, cur, rfl, hbg, hg, hnc, hcm, hcs, htake⟩
  · have hx : xs = [] := List.eq_nil_of_length_eq_zero (by simpa using hown.1)
    subst hx
    by_cases hm : m = 0
    · subst hm
      refine ⟨.slice none 0 0, w, ?_, by simpa using World.ownsRow_nil w base e 1, ⟨rfl, rfl, rfl, Nat.le_refl _, fun _ _ _ => rfl⟩, Or.inl rfl⟩
      simp [Builtin.append_, run_underlying ht, run_underlying hti, sizeOf, typeInfo, hi, asInt, asIntOf, hw0]
    · have hgr := grown 0 (by omega) (Value.ownBlock (.slice none 0 0))
      have hr := Lib.run_append_nil_zeros (P := P) w t ti ty e i z kx k ht hti hi hz m (by omega) (by omega) (by omega) (by omega)
      simp only [Nat.zero_add] at hgr hr ⊢
      rw [hr]
      refine ⟨_, _, rfl, ?_, ?_, Or.inr rfl⟩
      · simpa using hgr.1
      · simpa using hgr.2
  · by_cases hroom : n + m ≤ cap
    · by_cases hm : m = 0
      · subst hm
        refine ⟨_, w, ?_, by simpa using hown, ⟨rfl, rfl, rfl, Nat.le_refl _, fun _ _ _ => rfl⟩, Or.inl rfl⟩
        simp [Builtin.append_, run_underlying ht, run_underlying hti, sizeOf, typeInfo, hi, asInt, asIntOf, hw0, hnc]
        rfl
      · have hfit : n * i.size + (List.replicate m z).length ≤ cur.size := by rw [List.length_replicate, hcs, hsize]; omega
        have hst := run_storeCells_at P g (n * i.size) e (List.replicate m z) 0 cur w hg (by simpa using hfit) (fun u hu => by rw [List.mem_replicate] at hu; rw [hu.2]; exact h1)
        simp only [Nat.add_zero] at hst
        have hrun : (Builtin.append_ #[t, ti] ty #[.slice (some ⟨g, 0, none⟩) n cap, .int kx m]).run P w = .ok (.slice (some ⟨g, 0, none⟩) (n + m) cap) (w.setRow g (cur.toList.take (n * i.size) ++ List.replicate m z ++ cur.toList.drop (n * i.size + (List.replicate m z).length)).toArray) := by
          simp [Builtin.append_, run_underlying ht, run_underlying hti, sizeOf, typeInfo, zeroValue, hi, hz, asInt, asIntOf, hw, hneg, hbig, hroom, hm, hsize, hzc, Addr.add_lit]
          rw [hsize] at hst
          simp at hst
          rw [hst]
          simp
        refine ⟨.slice (some ⟨g, 0, none⟩) (n + m) cap, _, hrun, ⟨hlen, .inr ⟨g, cap, _, rfl, hbg, setRow_heap w g cur _ e _ hg, hroom, hcm, ?_, ?_⟩⟩, ⟨rfl, rfl, rfl, by simp, fun k _ hk => setRow_other w g k _ (fun e => hk (by simp [Value.ownBlock, e]))⟩, Or.inl rfl⟩
        · simp only [List.size_toArray, List.length_append, List.length_take, List.length_drop, Array.length_toList]
          rw [hsize] at hfit ⊢
          rw [List.length_replicate] at hfit ⊢
          omega
        · have h6 : cur.toList.take (n * i.size) = xs := by rw [hsize]; exact htake
          rw [h6, ← hlen]
          exact List.take_left
    · have holds : ∀ j u, xs[j]? = some u → w.cell? ((⟨g, 0, none⟩ : Addr).add j) = some u := hown.cells (g := g) rfl
      have hgr := grown cap (by omega) (Value.ownBlock (.slice (some ⟨g, 0, none⟩) n cap))
      have hr := Lib.run_append_grow_zeros (P := P) w t ti ty e i z kx k ht hti hi hz (some ⟨g, 0, none⟩) n cap xs (run_firstCells_some (P := P) w.drew i.size n _ n cap xs (by rw [hsize]; exact hown.1) (by simpa using holds)) m (by omega) (by omega) (by omega) (by omega) (by omega) (growslice_fits (by omega) hbytes)
      rw [hr]
      exact ⟨_, _, rfl, hgr.1, hgr.2, Or.inr rfl⟩
theorem wpList_append_zeros1 {P : Program} {w : World} {ops : Array Oper} {rest : List Oper} {o : Oper} {a : Act} {Q : Exit → Act → World → Prop} (hgd : o.guard = none) (s x : Operand) (t ti : TypeId)
    (ho : o.op = .call { callee := .builtin .append, args := #[s, x], argTypes := #[t, ti] })
    (base : Nat) (e : TypeId) (i : TypeInfo) (z : Value) (bytes : Nat) (ht : P.underlying t = some (.slice e)) {k : IntKind} (hti : P.underlying ti = some (.int k)) (hi : P.info? e = some i) (hz : i.zero = some z)
    (hsize : i.size = 1) (hby : i.bytes = bytes) (hzs : z.cells = #[z]) (h1 : z.oneCell' = true) (hb0 : 0 < bytes)
    (v : Value) (n : Nat) (xs : List Value) (hs : a.eval s = v) (hown : w.ownsRow base e 1 v n xs) (kx : IntKind) (m : Nat) (hx : a.eval x = .int kx m)
    (hbytes : (n + m) * bytes ≤ 140737488355328) (hbase : base ≤ w.heap.size)
    (h : ∀ v' w', w'.ownsRow base e 1 v' (n + m) (xs ++ List.replicate m z) → w.grownBy w' v.ownBlock → (v'.ownBlock = v.ownBlock ∨ v'.ownBlock = some w.heap.size) → wpList P ops Q rest (a.put o.dst v') w') : wpList P ops Q (o :: rest) a w := by
  obtain ⟨v', w', hr, h2, h3, h4⟩ := run_append_zeros1 (P := P) w base t ti o.type e i z bytes ht hti hi hz hsize hby hzs h1 hb0 v n xs hown kx m hbytes hbase
  exact Lib.wpList_append_run w hgd s x t ti ho v (.int kx m) hs hx v' w' hr (h v' w' h2 h3 h4)
theorem own_shape {w : World} {B : Nat} {t : TypeId} {v : Value} {n : Nat} {vs : List Value} (h : w.ownsRow B t 1 v n vs) (hn : 0 < n) :
    ∃ g cap cur, v = .slice (some ⟨g, 0, none⟩) n cap ∧ B ≤ g ∧ w.heap[g]? = some (.cells cur t (0, 0)) := by
  rcases h.2 with ⟨_, h0⟩ | ⟨g, cap, cur, rfl, hB, hg, _⟩
  · omega
  · exact ⟨g, cap, cur, rfl, hB, hg⟩
theorem own_set {k : IntKind} {w : World} {B : Nat} {t : TypeId} {g cap : Nat} {xs : List Int} (h : w.ownsRow B t 1 (.slice (some ⟨g, 0, none⟩) xs.length cap) xs.length (xs.map (Value.int k))) (i : Nat) (v : Int) (_hi : i < xs.length) :
    (w.setCell ⟨g, i, none⟩ (.int k v)).ownsRow B t 1 (.slice (some ⟨g, 0, none⟩) xs.length cap) xs.length ((xs.set i v).map (Value.int k)) := by
  have := (h.stored i (.int k v)).1
  rw [List.map_set]
  exact this
theorem addr_add_none (b off q : Nat) : (⟨b, off, none⟩ : Addr).add q = ⟨b, off + q, none⟩ := by
  unfold Addr.add; split <;> simp_all
end Go.Proofs.YtcenagpkfimkbaaGreatDoor
/-
  run.some's and run.none's closures, for any function that they hold.
-/
namespace Go.Proofs.YtcenagpkfimkbaaGreatDoor
open Go Go.RowKit
attribute [local go_sem ↓] Go.wp_at_zero Go.wp_at_succ

/-- An operation. -/
abbrev opV (k a b c : Int) : Value := .agg #[.int .i64 k, .int .u64 a, .int .u64 b, .int .u64 c]

set_option maxRecDepth 100000 in
set_option maxHeartbeats 2000000 in
theorem some1_any (f g mb : Nat) (hv : Addr) (k a b c : Int) (w : World) (Post : World → Int → Int → World → Prop) (hcf : ∀ (args : Array Value) (w : World), Sem.run Tryz.prog (callFunc f args) w = .ok (.enter f args) w)
    (hg : w.cell? ⟨g, 0, none⟩ = some (fnV f)) (hm : w.cell? ⟨mb, 0, none⟩ = some (.pointer (some hv)))
    (SS : Nat → Prop) (hs1 : ¬ SS g) (hs2 : ¬ SS mb) (hs3 : ¬ SS w.heap.size)
    (h : ∀ w1, Below w.heap.size w w1 → Calls Tryz.prog f #[.pointer (some hv), opV k a b c] w1 fun e w' => ∃ v er, e = .returned (.tuple #[.int .u64 v, .int .i64 er]) ∧ Post w1 v er w' ∧ Moved SS w1 w') :
    Calls Tryz.prog 100 #[.pointer (some ⟨mb, 0, none⟩), opV k a b c, .pointer (some ⟨g, 0, none⟩)] w fun e w' => ∃ v er, e = .returned (.tuple #[.int .u64 v, .int .i64 er]) ∧ ∃ w1, Below w.heap.size w w1 ∧ Post w1 v er w' ∧ Moved SS w1 w' := by
  obtain ⟨X, hX⟩ : ∃ X, w.alloc (.cells #[.int .i64 k, .int .u64 a, .int .u64 b, .int .u64 c] 36) = X := ⟨_, rfl⟩
  have hbX : Below w.heap.size w X := by rw [← hX]; exact (Below.refl _ _).alloc (Nat.le_refl _) _
  have oX : X.heap[w.heap.size]? = some (.cells #[.int .i64 k, .int .u64 a, .int .u64 b, .int .u64 c] 36 (0, 0)) := by rw [← hX]; exact heap_alloc_eq _ _
  have k0 := heap_cell oX 0
  have k1 := heap_cell oX 1
  have k2 := heap_cell oX 2
  have k3 := heap_cell oX 3
  simp at k0 k1 k2 k3
  have g0 := (hbX.cell (cell_lt hg)).trans hg
  have m0 := (hbX.cell (cell_lt hm)).trans hm
  have hd : ∀ n : Nat, Below w.heap.size w (X.drewN n) := fun n => hbX.trans ⟨rfl, rfl, rfl, by simp, fun _ _ => rfl⟩
  have H := fun n => (h (X.drewN n) (hd n)).mono (R' := fun e w' => ∃ v er, e = .returned (.tuple #[.int .u64 v, .int .i64 er]) ∧ (∃ w1, Below w.heap.size w w1 ∧ Post w1 v er w' ∧ Moved SS w1 w') ∧ Moved SS (X.drewN n) w') (fun e w' ⟨v, er, he, hP, hM⟩ => ⟨v, er, he, ⟨X.drewN n, hd n, hP, hM⟩, hM⟩)
  have HN := Lib.hid (And.intro hs1 (And.intro hs2 hs3))
  have HM := fun (n : Nat) (w' : World) (hM : Moved SS (X.drewN n) w') => (⟨hM.cell (p := ⟨g, 0, none⟩) (v := fnV f) g0 HN.out.1, hM.cell (p := ⟨mb, 0, none⟩) m0 HN.out.2.1, hM.cell (p := ⟨w.heap.size, 0, none⟩) k0 HN.out.2.2, hM.cell (p := ⟨w.heap.size, 1, none⟩) k1 HN.out.2.2, hM.cell (p := ⟨w.heap.size, 2, none⟩) k2 HN.out.2.2, hM.cell (p := ⟨w.heap.size, 3, none⟩) k3 HN.out.2.2⟩ : w'.cell? ⟨g, 0, none⟩ = some (fnV f) ∧ w'.cell? ⟨mb, 0, none⟩ = some (.pointer (some hv)) ∧ w'.cell? ⟨w.heap.size, 0, none⟩ = some (.int .i64 k) ∧ w'.cell? ⟨w.heap.size, 1, none⟩ = some (.int .u64 a) ∧ w'.cell? ⟨w.heap.size, 2, none⟩ = some (.int .u64 b) ∧ w'.cell? ⟨w.heap.size, 3, none⟩ = some (.int .u64 c))
  have HM := Lib.hid HM
  clear h oX hbX hg hm hd hs1 hs2 hs3
  go_enter Tryz.func100, Tryz.ntmps100
  go_wp2_with fail
  try rw [hX]
  go_wp2_with fail
  go_region_held3 (fun w' => w'.cell? ⟨g, 0, none⟩ = some (fnV f) ∧ w'.cell? ⟨mb, 0, none⟩ = some (.pointer (some hv)) ∧ w'.cell? ⟨w.heap.size, 0, none⟩ = some (.int .i64 k) ∧ w'.cell? ⟨w.heap.size, 1, none⟩ = some (.int .u64 a) ∧ w'.cell? ⟨w.heap.size, 2, none⟩ = some (.int .u64 b) ∧ w'.cell? ⟨w.heap.size, 3, none⟩ = some (.int .u64 c)) (first | exact hK.out | go_keep) ((refine (H _).mono ?_; rintro e w2 ⟨v, er, rfl, hP, hM⟩; have hK := Lib.hid (HM.out _ _ hM); have HP := Lib.hid hP; clear hP hM))
  all_goals
    go_wp2
    go_ret2
    exact ⟨_, _, rfl, HP.out⟩
set_option maxRecDepth 100000 in
set_option maxHeartbeats 2000000 in
theorem none1_any (f g mb : Nat) (hv : Addr) (k a b c : Int) (w : World) (Post : World → Int → Int → World → Prop) (hcf : ∀ (args : Array Value) (w : World), Sem.run Tryz.prog (callFunc f args) w = .ok (.enter f args) w)
    (hg : w.cell? ⟨g, 0, none⟩ = some (fnV f)) (hm : w.cell? ⟨mb, 0, none⟩ = some (.pointer (some hv)))
    (SS : Nat → Prop) (hs1 : ¬ SS g) (hs2 : ¬ SS mb) (hs3 : ¬ SS w.heap.size)
    (h : ∀ w1, Below w.heap.size w w1 → Calls Tryz.prog f #[.pointer (some hv), opV k a b c] w1 fun e w' => ∃ er, e = .returned (.int .i64 er) ∧ Post w1 0 er w' ∧ Moved SS w1 w') :
    Calls Tryz.prog 105 #[.pointer (some ⟨mb, 0, none⟩), opV k a b c, .pointer (some ⟨g, 0, none⟩)] w fun e w' => ∃ v er, e = .returned (.tuple #[.int .u64 v, .int .i64 er]) ∧ ∃ w1, Below w.heap.size w w1 ∧ Post w1 v er w' ∧ Moved SS w1 w' := by
  obtain ⟨X, hX⟩ : ∃ X, w.alloc (.cells #[.int .i64 k, .int .u64 a, .int .u64 b, .int .u64 c] 36) = X := ⟨_, rfl⟩
  have hbX : Below w.heap.size w X := by rw [← hX]; exact (Below.refl _ _).alloc (Nat.le_refl _) _
  have oX : X.heap[w.heap.size]? = some (.cells #[.int .i64 k, .int .u64 a, .int .u64 b, .int .u64 c] 36 (0, 0)) := by rw [← hX]; exact heap_alloc_eq _ _
  have k0 := heap_cell oX 0
  have k1 := heap_cell oX 1
  have k2 := heap_cell oX 2
  have k3 := heap_cell oX 3
  simp at k0 k1 k2 k3
  have g0 := (hbX.cell (cell_lt hg)).trans hg
  have m0 := (hbX.cell (cell_lt hm)).trans hm
  have hd : ∀ n : Nat, Below w.heap.size w (X.drewN n) := fun n => hbX.trans ⟨rfl, rfl, rfl, by simp, fun _ _ => rfl⟩
  have H := fun n => (h (X.drewN n) (hd n)).mono (R' := fun e w' => ∃ er, e = .returned (.int .i64 er) ∧ (∃ w1, Below w.heap.size w w1 ∧ Post w1 0 er w' ∧ Moved SS w1 w') ∧ Moved SS (X.drewN n) w') (fun e w' ⟨er, he, hP, hM⟩ => ⟨er, he, ⟨X.drewN n, hd n, hP, hM⟩, hM⟩)
  have HN := Lib.hid (And.intro hs1 (And.intro hs2 hs3))
  have HM := fun (n : Nat) (w' : World) (hM : Moved SS (X.drewN n) w') => (⟨hM.cell (p := ⟨g, 0, none⟩) (v := fnV f) g0 HN.out.1, hM.cell (p := ⟨mb, 0, none⟩) m0 HN.out.2.1, hM.cell (p := ⟨w.heap.size, 0, none⟩) k0 HN.out.2.2, hM.cell (p := ⟨w.heap.size, 1, none⟩) k1 HN.out.2.2, hM.cell (p := ⟨w.heap.size, 2, none⟩) k2 HN.out.2.2, hM.cell (p := ⟨w.heap.size, 3, none⟩) k3 HN.out.2.2⟩ : w'.cell? ⟨g, 0, none⟩ = some (fnV f) ∧ w'.cell? ⟨mb, 0, none⟩ = some (.pointer (some hv)) ∧ w'.cell? ⟨w.heap.size, 0, none⟩ = some (.int .i64 k) ∧ w'.cell? ⟨w.heap.size, 1, none⟩ = some (.int .u64 a) ∧ w'.cell? ⟨w.heap.size, 2, none⟩ = some (.int .u64 b) ∧ w'.cell? ⟨w.heap.size, 3, none⟩ = some (.int .u64 c))
  have HM := Lib.hid HM
  clear h oX hbX hg hm hd hs1 hs2 hs3
  go_enter Tryz.func105, Tryz.ntmps105
  go_wp2_with fail
  try rw [hX]
  go_wp2_with fail
  go_region_held3 (fun w' => w'.cell? ⟨g, 0, none⟩ = some (fnV f) ∧ w'.cell? ⟨mb, 0, none⟩ = some (.pointer (some hv)) ∧ w'.cell? ⟨w.heap.size, 0, none⟩ = some (.int .i64 k) ∧ w'.cell? ⟨w.heap.size, 1, none⟩ = some (.int .u64 a) ∧ w'.cell? ⟨w.heap.size, 2, none⟩ = some (.int .u64 b) ∧ w'.cell? ⟨w.heap.size, 3, none⟩ = some (.int .u64 c)) (first | exact hK.out | go_keep) ((refine (H _).mono ?_; rintro e w2 ⟨er, rfl, hP, hM⟩; have hK := Lib.hid (HM.out _ _ hM); have HP := Lib.hid hP; clear hP hM))
  all_goals
    go_wp2
    go_ret2
    exact ⟨_, _, rfl, HP.out⟩
end Go.Proofs.YtcenagpkfimkbaaGreatDoor
