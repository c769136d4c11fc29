/-
  Contracts of functions of the program, laid together.
-/
import Derived.Test.YtcenagpkfimkbaaGreatDoorProg
import Derived.WalkKit
import Derived.WalkLawsBesides
import Derived.WalkSpells
import Derived.Lib.Hide
namespace Go.Proofs.YtcenagpkfimkbaaGreatDoor
open Go Go.RowKit

theorem ret_bool {a b : Bool} (h : a = b) : Ending.returned (.bool a) = .returned (.bool b) := by rw [h]
theorem ret_int {k : IntKind} {a b : Int} (h : a = b) : Ending.returned (.int k a) = .returned (.int k b) := by rw [h]
theorem ret_int2 {k k' : IntKind} {a b a' b' : Int} (h : a = b) (h' : a' = b') : Ending.returned (.tuple #[.int k a, .int k' a']) = .returned (.tuple #[.int k b, .int k' b']) := by rw [h, h']

theorem bcell {W w1 : World} (hb : Below W.heap.size W w1) :
    (∀ b o, b < W.heap.size → w1.cell? ⟨b, o, none⟩ = W.cell? ⟨b, o, none⟩) ∧ (∀ b o, b < W.heap.size → w1.frozen? ⟨b, o, none⟩ = W.frozen? ⟨b, o, none⟩) ∧ W.heap.size ≤ w1.heap.size :=
  ⟨fun b o h => hb.cell (p := ⟨b, o, none⟩) h, fun b o h => hb.frozen (p := ⟨b, o, none⟩) h, hb.size⟩

theorem cell_lt {w : World} {p : Addr} {v : Value} (h : w.cell? p = some v) : p.block < w.heap.size := by
  apply Nat.lt_of_not_le
  intro hn
  have : w.heap[p.block]? = none := by simpa using hn
  simp [World.cell?, this] at h

/-! ### Blocks -/
theorem heap_cell {w : World} {g : Nat} {arr : Array Value} {e : TypeId} {fr : Nat × Nat} (h : w.heap[g]? = some (.cells arr e fr)) (i : Nat) : w.cell? ⟨g, i, none⟩ = arr[i]? := by
  simp [World.cell?, h]
theorem heap_free {w : World} {g : Nat} {arr : Array Value} {e : TypeId} (h : w.heap[g]? = some (.cells arr e (0, 0))) (i : Nat) : w.frozen? ⟨g, i, none⟩ = false := by
  simp [World.frozen?, h]
theorem heap_lt {w : World} {g : Nat} {o : Obj} (h : w.heap[g]? = some o) : g < w.heap.size := (Array.getElem?_eq_some_iff.1 h).1
theorem heap_set {w : World} {g : Nat} {arr : Array Value} {e : TypeId} {fr : Nat × Nat} (h : w.heap[g]? = some (.cells arr e fr)) (i : Nat) (v : Value) :
    (w.setCell ⟨g, i, none⟩ v).heap[g]? = some (.cells (arr.setIfInBounds i v) e fr) := by
  simp only [World.setCell, Array.getElem?_modify, if_pos, h]; rfl
theorem heap_set_ne {w : World} {g k : Nat} (h : k ≠ g) (i : Nat) (v : Value) : (w.setCell ⟨g, i, none⟩ v).heap[k]? = w.heap[k]? := Below.heap_setCell _ _ _ _ h
theorem heap_alloc_eq (w : World) (o : Obj) : (w.alloc o).heap[w.heap.size]? = some o := by simpa using heap_alloc_new w o
theorem heap_alloc_lt {w : World} {k : Nat} {x : Obj} (h : w.heap[k]? = some x) (o : Obj) : (w.alloc o).heap[k]? = some x := (Below.heap_alloc w o k (heap_lt h)).trans h

/-! ### What turns: new blocks, and block g alone -/
theorem grown_refl (w : World) (r : Option Nat) : w.grownBy w r := ⟨rfl, rfl, rfl, Nat.le_refl _, fun _ _ _ => rfl⟩
theorem grown_trans {a b c : World} {r : Option Nat} (h : a.grownBy b r) (k : b.grownBy c r) : a.grownBy c r :=
  ⟨k.os.trans h.os, k.tape.trans h.tape, k.output.trans h.output, Nat.le_trans h.size k.size, fun i hi hr => (k.block i (Nat.lt_of_lt_of_le hi h.size) hr).trans (h.block i hi hr)⟩
theorem grown_set (w : World) (g i : Nat) (v : Value) : w.grownBy (w.setCell ⟨g, i, none⟩ v) (some g) :=
  ⟨rfl, rfl, rfl, by simp [World.setCell], fun k _ hk => heap_set_ne (fun e => hk (by rw [e])) i v⟩
theorem grown_of_below {w w' : World} (h : Below w.heap.size w w') (r : Option Nat) : w.grownBy w' r := ⟨h.os, h.tape, h.output, h.size, fun k hk _ => h.block k hk⟩
theorem below_of_grown {w w' : World} (h : w.grownBy w' none) : Below w.heap.size w w' := ⟨h.os, h.tape, h.output, h.size, fun k hk => h.block k hk (by simp)⟩
theorem grown_alloc (w : World) (o : Obj) (r : Option Nat) : w.grownBy (w.alloc o) r := World.grownBy_alloc w o r
theorem grown_drew (w : World) (r : Option Nat) : w.grownBy w.drew r := ⟨rfl, rfl, rfl, Nat.le_refl _, fun _ _ _ => rfl⟩
theorem grown_weak {a b : World} (h : a.grownBy b none) (r : Option Nat) : a.grownBy b r := ⟨h.os, h.tape, h.output, h.size, fun k hk _ => h.block k hk (by simp)⟩
theorem below_grown {B : Nat} {a w w' : World} {g : Nat} (h : Below B a w) (hg : w.grownBy w' (some g)) (hB : B ≤ w.heap.size) (hgB : B ≤ g) : Below B a w' :=
  h.grown hg hB (fun k e => by cases e; exact hgB)
theorem grown_new {a b c : World} {g : Nat} {r : Option Nat} (h : a.grownBy b r) (k : b.grownBy c (some g)) (hg : a.heap.size ≤ g) : a.grownBy c r :=
  ⟨k.os.trans h.os, k.tape.trans h.tape, k.output.trans h.output, Nat.le_trans h.size k.size, fun i hi hr => (k.block i (Nat.lt_of_lt_of_le hi h.size) (fun e => by cases e; omega)).trans (h.block i hi hr)⟩
theorem gcell {W w1 : World} {g : Nat} (h : W.grownBy w1 (some g)) :
    (∀ b o, b < W.heap.size → b ≠ g → w1.cell? ⟨b, o, none⟩ = W.cell? ⟨b, o, none⟩) ∧ (∀ b o, b < W.heap.size → b ≠ g → w1.frozen? ⟨b, o, none⟩ = W.frozen? ⟨b, o, none⟩) ∧ W.heap.size ≤ w1.heap.size :=
  ⟨fun b o hb hn => World.cell?_of_block (a := ⟨b, o, none⟩) (h.block b hb (fun e => hn (by simpa using e))), fun b o hb hn => World.frozen?_of_block (a := ⟨b, o, none⟩) (h.block b hb (fun e => hn (by simpa using e))), h.size⟩
theorem heap_grown {W w1 : World} {g k : Nat} {o : Obj} (h : W.grownBy w1 (some g)) (hk : W.heap[k]? = some o) (hn : k ≠ g) : w1.heap[k]? = some o :=
  (h.block k (heap_lt hk) (fun e => hn (by simpa using e))).trans hk
theorem heap_below {W w1 : World} {B k : Nat} {o : Obj} (h : Below B W w1) (hk : W.heap[k]? = some o) (hB : k < B) : w1.heap[k]? = some o :=
  (h.block k hB).trans hk

/-! ### Slices that are read -/
def Reads (k : IntKind) (w : World) (a : Option Addr) (xs : List Int) : Prop :=
  xs = [] ∨ ∃ b off, a = some ⟨b, off, none⟩ ∧ ∀ i, i < xs.length → w.cell? ⟨b, off + i, none⟩ = some (.int k (xs.getD i 0))
theorem Reads.below {k : IntKind} {w w' : World} {a : Option Addr} {xs : List Int} (h : Reads k w a xs) (hb : Below w.heap.size w w') : Reads k w' a xs := by
  rcases h with h | ⟨b, off, ha, hc⟩
  · exact .inl h
  · exact .inr ⟨b, off, ha, fun i hi => (hb.cell (cell_lt (hc i hi))).trans (hc i hi)⟩
theorem Reads.grown {k : IntKind} {w w' : World} {a : Option Addr} {xs : List Int} {g : Nat} (h : Reads k w a xs) (hg : w.grownBy w' (some g)) (hn : ∀ q, a = some q → q.block ≠ g) : Reads k w' a xs := by
  rcases h with h | ⟨b, off, ha, hc⟩
  · exact .inl h
  · exact .inr ⟨b, off, ha, fun i hi => (World.cell?_of_block (a := ⟨b, off + i, none⟩) (hg.block b (cell_lt (hc i hi)) (by simpa using hn _ ha))).trans (hc i hi)⟩
theorem Reads.at_ {k : IntKind} {w : World} {a : Option Addr} {xs : List Int} (h : Reads k w a xs) (i : Nat) (hi : i < xs.length) :
    ∃ b off, a = some ⟨b, off, none⟩ ∧ w.cell? ⟨b, off + i, none⟩ = some (.int k (xs[i]?.getD 0)) := by
  rcases h with rfl | ⟨b, off, h, hc⟩
  · simp at hi
  · exact ⟨b, off, h, hc i hi⟩

end Go.Proofs.YtcenagpkfimkbaaGreatDoor
namespace Go.Proofs.YtcenagpkfimkbaaGreatDoor
open Go Go.RowKit

def Tab (w : World) : Prop := ∀ i, i < 4 → w.cell? ⟨1, i, none⟩ = some (.int .i64 (if i = 0 then 0 else 1))

theorem Tab.lt {w : World} (h : Tab w) : 1 < w.heap.size := cell_lt (h 0 (by omega))
theorem Tab.below {w w' : World} (h : Tab w) {B : Nat} (hB : 1 < B) (hb : Below B w w') : Tab w' := fun i hi =>
  (hb.cell (p := ⟨1, i, none⟩) hB).trans (h i hi)
theorem Tab.alloc {w : World} (h : Tab w) (o : Obj) : Tab (w.alloc o) := h.below h.lt ((Below.refl _ _).alloc (Nat.le_refl _) _)

def ofK (k : Int) : Int := if k < 0 ∨ 4 ≤ k then 2 else if k = 0 then 0 else 1

theorem of_any (k : Int) (w : World) (h0 : Tab w) :
    Calls Tryz.prog 167 #[.int .i64 k] w fun e w' => e = .returned (.int .i64 (ofK k)) ∧ w = w' := by
  have c0 := h0 0 (by omega)
  have c1 := h0 1 (by omega)
  have c2 := h0 2 (by omega)
  have c3 := h0 3 (by omega)
  simp at c0 c1 c2 c3
  clear h0
  rcases (show k < 0 ∨ 4 ≤ k ∨ k = 0 ∨ k = 1 ∨ k = 2 ∨ k = 3 by omega) with h | h | h | h | h | h
  · go_enter Tryz.func167, Tryz.ntmps167
    go_wp2
    go_ret
    exact ⟨by simp [ofK, h], rfl⟩
  · have h' : ¬ k < 0 := by omega
    go_enter Tryz.func167, Tryz.ntmps167
    go_wp2
    go_ret
    exact ⟨by simp [ofK, h], rfl⟩
  all_goals
    subst h
    go_enter Tryz.func167, Tryz.ntmps167
    go_wp2
    go_ret
    exact ⟨by simp [ofK], rfl⟩

end Go.Proofs.YtcenagpkfimkbaaGreatDoor
namespace Go.Proofs.YtcenagpkfimkbaaGreatDoor
open Go Go.RowKit

def isPtr (k : Int) : Bool := decide (1 ≤ k ∧ k < 4)
theorem isPtr_ofK (k : Int) : (ofK k == 1) = isPtr k := by
  unfold ofK isPtr
  rw [Bool.eq_iff_iff]
  simp
  repeat' split
  all_goals omega
theorem Pointer_any (k : Int) (w : World) (h0 : Tab w) :
    Calls Tryz.prog 119 #[.int .i64 k] w fun e w' => e = .returned (.bool (isPtr k)) ∧ w = w' := by
  go_enter Tryz.func119, Tryz.ntmps119
  go_wp2_with (go_at_call 167; refine (of_any _ _ h0).mono ?_; rintro e w' ⟨rfl, rfl⟩)
  go_ret
  refine ⟨?_, rfl⟩
  rw [← isPtr_ofK]
  rfl
end Go.Proofs.YtcenagpkfimkbaaGreatDoor
namespace Go.Proofs.YtcenagpkfimkbaaGreatDoor
open Go Go.RowKit

def set8 (w : World) (g : Nat) (v0 v1 v2 v3 v4 v5 v6 v7 : Value) : World :=
  (((((((w.setCell ⟨g, 0, none⟩ v0).setCell ⟨g, 1, none⟩ v1).setCell ⟨g, 2, none⟩ v2).setCell ⟨g, 3, none⟩ v3).setCell ⟨g, 4, none⟩ v4).setCell ⟨g, 5, none⟩ v5).setCell ⟨g, 6, none⟩ v6).setCell ⟨g, 7, none⟩ v7
theorem set8_at {w : World} {g : Nat} {u0 u1 u2 u3 u4 u5 u6 u7 : Value} {t : TypeId} (h : w.heap[g]? = some (.cells #[u0, u1, u2, u3, u4, u5, u6, u7] t (0, 0))) (v0 v1 v2 v3 v4 v5 v6 v7 : Value) :
    (set8 w g v0 v1 v2 v3 v4 v5 v6 v7).heap[g]? = some (.cells #[v0, v1, v2, v3, v4, v5, v6, v7] t (0, 0)) ∧ w.grownBy (set8 w g v0 v1 v2 v3 v4 v5 v6 v7) (some g) := by
  refine ⟨?_, ?_⟩
  · have := heap_set (heap_set (heap_set (heap_set (heap_set (heap_set (heap_set (heap_set h 0 v0) 1 v1) 2 v2) 3 v3) 4 v4) 5 v5) 6 v6) 7 v7
    simpa [set8] using this
  · exact grown_trans (grown_trans (grown_trans (grown_trans (grown_trans (grown_trans (grown_trans (grown_set w g 0 v0) (grown_set _ g 1 v1)) (grown_set _ g 2 v2)) (grown_set _ g 3 v3)) (grown_set _ g 4 v4)) (grown_set _ g 5 v5)) (grown_set _ g 6 v6)) (grown_set _ g 7 v7)
end Go.Proofs.YtcenagpkfimkbaaGreatDoor
namespace Go.Proofs.YtcenagpkfimkbaaGreatDoor
open Go Go.RowKit

def vb : List Nat → Nat
  | [] => 0
  | d :: r => d + 256 * vb r
theorem bit_vb {d r j : Nat} (hd : d < 256) : (d + 256 * r).testBit j = if j < 8 then d.testBit j else r.testBit (j - 8) := by
  have := Nat.testBit_two_pow_mul_add r (show d < 2 ^ 8 by omega) j
  rw [show 2 ^ 8 * r + d = d + 256 * r by omega] at this
  exact this
theorem bit_small {m j : Nat} (hm : m < 256) (hj : ¬ j < 8) : m.testBit j = false := by
  apply Nat.testBit_lt_two_pow
  have : 2 ^ 8 ≤ 2 ^ j := Nat.pow_le_pow_right (by omega) (by omega)
  omega
theorem and_vb {d r m M : Nat} (hd : d < 256) (hm : m < 256) : (d + 256 * r) &&& (m + 256 * M) = (d &&& m) + 256 * (r &&& M) := by
  have h : (d &&& m) < 256 := Nat.lt_of_le_of_lt Nat.and_le_left hd
  apply Nat.eq_of_testBit_eq
  intro j
  rw [Nat.testBit_and, bit_vb hd, bit_vb hm, bit_vb h]
  split
  · rw [Nat.testBit_and]
  · rw [Nat.testBit_and]
theorem shr_vb {d r m M s : Nat} (hd : d < 256) (hm : m < 2 ^ (8 - s)) (hs : s ≤ 8) : ((d + 256 * r) >>> s) &&& (m + 256 * M) = ((d >>> s) &&& m) + 256 * ((r >>> s) &&& M) := by
  have hm2 : m < 256 := Nat.lt_of_lt_of_le hm (show 2 ^ (8 - s) ≤ 2 ^ 8 from Nat.pow_le_pow_right (by omega) (by omega))
  have h : ((d >>> s) &&& m) < 256 := Nat.lt_of_le_of_lt Nat.and_le_right hm2
  apply Nat.eq_of_testBit_eq
  intro j
  rw [Nat.testBit_and, Nat.testBit_shiftRight, bit_vb hd, bit_vb hm2, bit_vb h]
  by_cases hj : j < 8
  · rw [if_pos hj, if_pos hj, Nat.testBit_and, Nat.testBit_shiftRight]
    by_cases h2 : s + j < 8
    · rw [if_pos h2]
    · have : m.testBit j = false := by
        apply Nat.testBit_lt_two_pow
        exact Nat.lt_of_lt_of_le hm (Nat.pow_le_pow_right (by omega) (by omega))
      rw [this]; simp
  · rw [if_neg hj, if_neg hj, if_neg (by omega), Nat.testBit_and, Nat.testBit_shiftRight]
    congr 2
    omega

def g1 (d : Nat) : Nat := ((d >>> 1) &&& 85) + (d &&& 85)
def g2 (d : Nat) : Nat := ((d >>> 2) &&& 51) + (d &&& 51)
def g3 (d : Nat) : Nat := (d / 16 + d) % 16
theorem s1_vb (ds : List Nat) (h : ∀ d ∈ ds, d < 256) : ((vb ds >>> 1) &&& vb (List.replicate ds.length 85)) + (vb ds &&& vb (List.replicate ds.length 85)) = vb (ds.map g1) := by
  induction ds with
  | nil => simp [vb]
  | cons d r ih =>
    have ih := ih fun x hx => h x (List.mem_cons_of_mem _ hx)
    have hd := h d List.mem_cons_self
    simp only [List.length_cons, List.replicate_succ, List.map_cons, vb]
    rw [shr_vb hd (by decide) (by omega), and_vb hd (by omega), ← ih, g1]
    omega
theorem s2_vb (ds : List Nat) (h : ∀ d ∈ ds, d < 256) : ((vb ds >>> 2) &&& vb (List.replicate ds.length 51)) + (vb ds &&& vb (List.replicate ds.length 51)) = vb (ds.map g2) := by
  induction ds with
  | nil => simp [vb]
  | cons d r ih =>
    have ih := ih fun x hx => h x (List.mem_cons_of_mem _ hx)
    have hd := h d List.mem_cons_self
    simp only [List.length_cons, List.replicate_succ, List.map_cons, vb]
    rw [shr_vb hd (by decide) (by omega), and_vb hd (by omega), ← ih, g2]
    omega
def halves (ds : List Nat) : Prop := ∀ d ∈ ds, d / 16 ≤ 4 ∧ d % 16 ≤ 4
theorem and_15 (d : Nat) : d &&& 15 = d % 16 := by
  have := Nat.and_two_pow_sub_one_eq_mod d 4
  simpa using this
theorem s3_vb (ds : List Nat) (h : halves ds) : ((vb ds >>> 4) + vb ds) &&& vb (List.replicate ds.length 15) = vb (ds.map g3) ∧ vb ds % 16 ≤ 4 := by
  induction ds with
  | nil => simp [vb]
  | cons d r ih =>
    have ih := ih fun x hx => h x (List.mem_cons_of_mem _ hx)
    have hd := h d List.mem_cons_self
    obtain ⟨ih, hr⟩ := ih
    simp only [List.length_cons, List.replicate_succ, List.map_cons, vb]
    refine ⟨?_, by omega⟩
    have e : ((d + 256 * vb r) >>> 4) + (d + 256 * vb r) = (d / 16 + 16 * (vb r % 16) + d) + 256 * ((vb r >>> 4) + vb r) := by
      rw [Nat.shiftRight_eq_div_pow, Nat.shiftRight_eq_div_pow]; omega
    rw [e, and_vb (by omega) (by omega), ih, and_15, g3]
    omega

def pcN (v n : Nat) : Nat := (List.range n).countP fun i => v.testBit i
theorem pc_byte : ∀ d : Fin 256, g3 (g2 (g1 d.1)) = pcN d.1 8 ∧ g1 d.1 < 256 ∧ (g2 (g1 d.1)) / 16 ≤ 4 ∧ (g2 (g1 d.1)) % 16 ≤ 4 := by decide +kernel
theorem pcN_add (v n m : Nat) : pcN v (n + m) = pcN v n + (List.range m).countP fun i => v.testBit (n + i) := by
  unfold pcN
  rw [List.range_add, List.countP_append, List.countP_map]
  rfl
theorem pcN_vb {d r n : Nat} (hd : d < 256) : pcN (d + 256 * r) (8 + n) = pcN d 8 + pcN r n := by
  rw [pcN_add]
  congr 1
  · unfold pcN
    apply List.countP_congr
    intro i hi
    rw [bit_vb hd, if_pos (by simpa using hi)]
  · unfold pcN
    apply List.countP_congr
    intro i hi
    rw [bit_vb hd, if_neg (by omega)]
    simp
theorem pcN_all (ds : List Nat) (h : ∀ d ∈ ds, d < 256) : pcN (vb ds) (8 * ds.length) = (ds.map fun d => pcN d 8).sum := by
  induction ds with
  | nil => simp [pcN]
  | cons d r ih =>
    have ih := ih fun x hx => h x (List.mem_cons_of_mem _ hx)
    have hd := h d List.mem_cons_self
    rw [List.length_cons, show 8 * (r.length + 1) = 8 + 8 * r.length by omega, vb, pcN_vb hd, ih]
    simp
theorem pcs_vb (ds : List Nat) (h : ∀ d ∈ ds, d < 256) : ((ds.map g1).map g2).map g3 = ds.map (fun d => pcN d 8) ∧ (∀ d ∈ ds.map g1, d < 256) ∧ halves ((ds.map g1).map g2) := by
  refine ⟨?_, ?_, ?_⟩
  · rw [List.map_map, List.map_map]
    apply List.map_congr_left
    intro d hd
    exact (pc_byte ⟨d, h d hd⟩).1
  · intro x hx
    obtain ⟨d, hd, rfl⟩ := List.mem_map.1 hx
    exact (pc_byte ⟨d, h d hd⟩).2.1
  · intro x hx
    obtain ⟨y, hy, rfl⟩ := List.mem_map.1 hx
    obtain ⟨d, hd, rfl⟩ := List.mem_map.1 hy
    exact (pc_byte ⟨d, h d hd⟩).2.2
theorem bytes_of (v : Nat) (hv : v < 2 ^ 64) : ∃ d0 d1 d2 d3 d4 d5 d6 d7, d0 < 256 ∧ d1 < 256 ∧ d2 < 256 ∧ d3 < 256 ∧ d4 < 256 ∧ d5 < 256 ∧ d6 < 256 ∧ d7 < 256 ∧ v = vb [d0, d1, d2, d3, d4, d5, d6, d7] := by
  refine ⟨v % 256, v / 256 % 256, v / 256 / 256 % 256, v / 256 / 256 / 256 % 256, v / 256 / 256 / 256 / 256 % 256, v / 256 / 256 / 256 / 256 / 256 % 256, v / 256 / 256 / 256 / 256 / 256 / 256 % 256, v / 256 / 256 / 256 / 256 / 256 / 256 / 256, by omega, by omega, by omega, by omega, by omega, by omega, by omega, by omega, ?_⟩
  simp only [vb]
  omega
theorem pcN_le (v n : Nat) : pcN v n ≤ n := by
  have := List.countP_le_length (p := fun i => v.testBit i) (l := List.range n)
  simpa [pcN] using this
theorem ones_a4 (c0 c1 c2 c3 c4 c5 c6 c7 Y C D Z : Nat) (hY : Y = (c0 + c1 + 256 * (c1 + c2)) + 65536 * C) (hC : C = (c2 + c3) + 256 * (c3 + c4) + 65536 * (c4 + c5) + 16777216 * (c5 + c6) + 4294967296 * (c6 + c7) + 1099511627776 * c7) (hZ : Z = Y + C) (hD : D = (c4 + c5 + c6 + c7) + 256 * (c5 + c6 + c7) + 65536 * (c6 + c7) + 16777216 * c7) : Z = ((c0 + c1 + c2 + c3) + 256 * (c1 + c2 + c3 + c4) + 65536 * (c2 + c3 + c4 + c5) + 16777216 * (c3 + c4 + c5 + c6)) + 4294967296 * D := by omega
theorem ones_a3 (c0 c1 c2 c3 c4 c5 c6 c7 X A : Nat) (hX : X = c0 + 256 * (c1 + 256 * (c2 + 256 * (c3 + 256 * (c4 + 256 * (c5 + 256 * (c6 + 256 * (c7 + 256 * 0)))))))) (hA : A = c1 + 256 * c2 + 65536 * c3 + 16777216 * c4 + 4294967296 * c5 + 1099511627776 * c6 + 281474976710656 * c7) : X = c0 + 256 * A := by omega
theorem ones_fin (c0 c1 c2 c3 c4 c5 c6 c7 X : Nat) (b0 : c0 ≤ 8) (b1 : c1 ≤ 8) (b2 : c2 ≤ 8) (b3 : c3 ≤ 8) (b4 : c4 ≤ 8) (b5 : c5 ≤ 8) (b6 : c6 ≤ 8) (b7 : c7 ≤ 8)
    (hX : X = c0 + 256 * (c1 + 256 * (c2 + 256 * (c3 + 256 * (c4 + 256 * (c5 + 256 * (c6 + 256 * (c7 + 256 * 0)))))))) :
    X + X / 256 < 2 ^ 63 ∧ (X + X / 256) + (X + X / 256) / 65536 < 2 ^ 63 ∧ ((X + X / 256) + (X + X / 256) / 65536) + ((X + X / 256) + (X + X / 256) / 65536) / 4294967296 < 2 ^ 63 ∧ (((X + X / 256) + (X + X / 256) / 65536) + ((X + X / 256) + (X + X / 256) / 65536) / 4294967296) % 128 = c0 + (c1 + (c2 + (c3 + (c4 + (c5 + (c6 + (c7 + 0))))))) := by
  obtain ⟨A, hA⟩ : ∃ A, A = c1 + 256 * c2 + 65536 * c3 + 16777216 * c4 + 4294967296 * c5 + 1099511627776 * c6 + 281474976710656 * c7 := ⟨_, rfl⟩
  have hXA : X = c0 + 256 * A := by exact ones_a3 c0 c1 c2 c3 c4 c5 c6 c7 X A hX hA
  have hX1 : X / 256 = A := by
    clear hX hA
    omega
  rw [hX1]
  obtain ⟨Y, hY⟩ : ∃ Y, Y = X + A := ⟨_, rfl⟩
  rw [← hY]
  obtain ⟨C, hC⟩ : ∃ C, C = (c2 + c3) + 256 * (c3 + c4) + 65536 * (c4 + c5) + 16777216 * (c5 + c6) + 4294967296 * (c6 + c7) + 1099511627776 * c7 := ⟨_, rfl⟩
  have hYC : Y = (c0 + c1 + 256 * (c1 + c2)) + 65536 * C := by
    rw [hY, hXA, hA, hC]; omega
  have hAb : A < 2305843009213693953 := by rw [hA]; omega
  have hCb : C < 35184372088832 := by rw [hC]; omega
  clear hX hX1 hA
  have hY1 : Y / 65536 = C := by
    obtain ⟨q, hq⟩ : ∃ q, q = c0 + c1 + 256 * (c1 + c2) := ⟨_, rfl⟩
    rw [← hq] at hYC
    have : q < 65536 := by clear hC hY hXA hYC hAb hCb; omega
    clear hC hY hXA hq b0 b1 b2 b3 b4 b5 b6 b7 hAb hCb
    omega
  rw [hY1]
  obtain ⟨Z, hZ⟩ : ∃ Z, Z = Y + C := ⟨_, rfl⟩
  rw [← hZ]
  obtain ⟨D, hD⟩ : ∃ D, D = (c4 + c5 + c6 + c7) + 256 * (c5 + c6 + c7) + 65536 * (c6 + c7) + 16777216 * c7 := ⟨_, rfl⟩
  have hZD : Z = ((c0 + c1 + c2 + c3) + 256 * (c1 + c2 + c3 + c4) + 65536 * (c2 + c3 + c4 + c5) + 16777216 * (c3 + c4 + c5 + c6)) + 4294967296 * D := by
    exact ones_a4 c0 c1 c2 c3 c4 c5 c6 c7 Y C D Z hYC hC hZ hD
  have hDb : D < 1073741824 := by clear hC hY hXA hYC hZ hZD hAb hCb hY1; omega
  have hZ1 : Z / 4294967296 = D := by
    obtain ⟨q, hq⟩ : ∃ q, q = (c0 + c1 + c2 + c3) + 256 * (c1 + c2 + c3 + c4) + 65536 * (c2 + c3 + c4 + c5) + 16777216 * (c3 + c4 + c5 + c6) := ⟨_, rfl⟩
    rw [← hq] at hZD
    have : q < 4294967296 := by clear hC hY hXA hYC hD hZ hZD hAb hCb hDb hY1; omega
    clear hC hY hXA hYC hD hZ hq hAb hCb hDb hY1 b0 b1 b2 b3 b4 b5 b6 b7
    omega
  rw [hZ1]
  have hYb : Y < 4611686018427387904 := by
    have : c0 + c1 + 256 * (c1 + c2) < 65536 := by clear hC hY hXA hYC hD hZ hZD hAb hCb hDb hY1 hZ1; omega
    clear hC hD hZ hZD hZ1 hY1 hY hXA b0 b1 b2 b3 b4 b5 b6 b7; omega
  have hZb : Z < 9223372036854775808 - 1073741824 := by clear hC hD hZD hZ1 hYC hY hXA hY1 b0 b1 b2 b3 b4 b5 b6 b7; omega
  refine ⟨by clear hC hD hZD hZ1 hZ hYC hY hXA hY1 b0 b1 b2 b3 b4 b5 b6 b7; omega, by clear hC hD hZD hZ1 hZ hYC hY hXA hY1 b0 b1 b2 b3 b4 b5 b6 b7; omega, by clear hC hD hZD hZ1 hZ hYC hY hXA hY1 b0 b1 b2 b3 b4 b5 b6 b7; omega, ?_⟩
  obtain ⟨K, hK⟩ : ∃ K, K = 2 * (c1 + c2 + c3 + c4) + 512 * (c2 + c3 + c4 + c5) + 131072 * (c3 + c4 + c5 + c6) + 33554432 * D + 2 * (c5 + c6 + c7) + 512 * (c6 + c7) + 131072 * c7 := ⟨_, rfl⟩
  have hm : Z + D = (c0 + c1 + c2 + c3 + c4 + c5 + c6 + c7) + 128 * K := by
    clear hC hY hXA hYC hZ hZ1 hY1 hYb hZb hAb hCb hDb b0 b1 b2 b3 b4 b5 b6 b7
    rw [hK, hZD]
    omega
  rw [hm]
  clear hC hY hXA hYC hD hZ hZD hZ1 hY1 hYb hZb hm hK hAb hCb hDb
  omega
set_option maxHeartbeats 2000000 in
theorem ones_steps (v : Nat) (hv : v < 2 ^ 64) : ∃ x1 x2 x3 : Nat, x1 = ((v >>> 1) &&& 6148914691236517205) + (v &&& 6148914691236517205) ∧ x2 = ((x1 >>> 2) &&& 3689348814741910323) + (x1 &&& 3689348814741910323) ∧ x3 = ((x2 >>> 4) + x2) &&& 1085102592571150095 ∧
    x1 < 2 ^ 64 ∧ x2 < 2 ^ 63 ∧ x3 + x3 / 256 < 2 ^ 63 ∧ (x3 + x3 / 256) + (x3 + x3 / 256) / 65536 < 2 ^ 63 ∧ ((x3 + x3 / 256) + (x3 + x3 / 256) / 65536) + ((x3 + x3 / 256) + (x3 + x3 / 256) / 65536) / 4294967296 < 2 ^ 63 ∧ (((x3 + x3 / 256) + (x3 + x3 / 256) / 65536) + ((x3 + x3 / 256) + (x3 + x3 / 256) / 65536) / 4294967296) % 128 = pcN v 64 := by
  obtain ⟨d0, d1, d2, d3, d4, d5, d6, d7, h0, h1, h2, h3, h4, h5, h6, h7, rfl⟩ := bytes_of v hv
  have hds : ∀ d ∈ [d0, d1, d2, d3, d4, d5, d6, d7], d < 256 := by simp; omega
  obtain ⟨p1, p2, p3⟩ := pcs_vb _ hds
  have e1 := s1_vb _ hds
  have e2 := s2_vb _ p2
  have e3 := (s3_vb _ p3).1
  have e4 := pcN_all _ hds
  rw [p1] at e3
  simp only [List.length_cons, List.length_nil, List.length_map, List.replicate_succ, List.replicate_zero, Nat.zero_add, Nat.reduceAdd] at e1 e2 e3 e4
  rw [show vb [85, 85, 85, 85, 85, 85, 85, 85] = 6148914691236517205 from rfl] at e1
  rw [show vb [51, 51, 51, 51, 51, 51, 51, 51] = 3689348814741910323 from rfl] at e2
  rw [show vb [15, 15, 15, 15, 15, 15, 15, 15] = 1085102592571150095 from rfl] at e3
  refine ⟨_, _, _, rfl, rfl, rfl, ?_⟩
  rw [e1, e2, e3]
  have q1 := p2
  have q2 := p3
  simp only [List.map_cons, List.map_nil, List.mem_cons, List.not_mem_nil, or_false, forall_eq_or_imp, forall_eq, halves] at q1 q2
  simp only [List.map_cons, List.map_nil, List.sum_cons, List.sum_nil] at e4
  rw [show 8 * 8 = 64 from rfl] at e4
  rw [e4]
  have b0 := pcN_le d0 8
  have b1 := pcN_le d1 8
  have b2 := pcN_le d2 8
  have b3 := pcN_le d3 8
  have b4 := pcN_le d4 8
  have b5 := pcN_le d5 8
  have b6 := pcN_le d6 8
  have b7 := pcN_le d7 8
  simp only [List.map_cons, List.map_nil, vb]
  generalize pcN d0 8 = c0 at *
  generalize pcN d1 8 = c1 at *
  generalize pcN d2 8 = c2 at *
  generalize pcN d3 8 = c3 at *
  generalize pcN d4 8 = c4 at *
  generalize pcN d5 8 = c5 at *
  generalize pcN d6 8 = c6 at *
  generalize pcN d7 8 = c7 at *
  clear p1 p2 p3 e1 e2 e3 e4 hds hv
  refine ⟨?_, ?_, ones_fin c0 c1 c2 c3 c4 c5 c6 c7 _ b0 b1 b2 b3 b4 b5 b6 b7 rfl⟩
  · clear q2
    obtain ⟨a0, a1, a2, a3, a4, a5, a6, a7⟩ := q1
    generalize g1 d0 = f0 at *
    generalize g1 d1 = f1 at *
    generalize g1 d2 = f2 at *
    generalize g1 d3 = f3 at *
    generalize g1 d4 = f4 at *
    generalize g1 d5 = f5 at *
    generalize g1 d6 = f6 at *
    generalize g1 d7 = f7 at *
    clear b0 b1 b2 b3 b4 b5 b6 b7 h0 h1 h2 h3 h4 h5 h6 h7
    omega
  · clear q1
    obtain ⟨a0, a1, a2, a3, a4, a5, a6, a7⟩ := q2
    generalize g2 (g1 d0) = f0 at *
    generalize g2 (g1 d1) = f1 at *
    generalize g2 (g1 d2) = f2 at *
    generalize g2 (g1 d3) = f3 at *
    generalize g2 (g1 d4) = f4 at *
    generalize g2 (g1 d5) = f5 at *
    generalize g2 (g1 d6) = f6 at *
    generalize g2 (g1 d7) = f7 at *
    clear b0 b1 b2 b3 b4 b5 b6 b7 h0 h1 h2 h3 h4 h5 h6 h7
    have k0 : f0 ≤ 68 := by omega
    have k1 : f1 ≤ 68 := by omega
    have k2 : f2 ≤ 68 := by omega
    have k3 : f3 ≤ 68 := by omega
    have k4 : f4 ≤ 68 := by omega
    have k5 : f5 ≤ 68 := by omega
    have k6 : f6 ≤ 68 := by omega
    have k7 : f7 ≤ 68 := by omega
    clear a0 a1 a2 a3 a4 a5 a6 a7
    omega
end Go.Proofs.YtcenagpkfimkbaaGreatDoor
