/-
  Contracts of functions of the program, laid together.
-/
import Derived.Test.YtcenagpkfimkbaaGreatDoorTopNamesM2
import Derived.Test.YtcenagpkfimkbaaGreatDoorTopNamesM5
import Derived.Test.YtcenagpkfimkbaaGreatDoorTopNamesM6
import Derived.Test.YtcenagpkfimkbaaGreatDoorTopNamesM7
import Derived.Shelf.Abstract
import Derived.Deep.DrawnRows
import Derived.Deep.RegionHeld3
import Derived.Deep.AppendLies
import Derived.Deep.RegionLaw
/-
  run.actions' closures, over what the heap's methods answer.
-/
namespace Go.Proofs.YtcenagpkfimkbaaGreatDoor
open Go Go.RowKit

/-- A heap that a call turned: what it answers, and what the heap is then. -/
def GS (B : HB) (O0 O1 : Obj) (S : Nat → Prop) (Q : Int → Int → HM → Prop) (w : World) (v er : Int) (w' : World) : Prop :=
  ∃ H' S', Q v er H' ∧ HeapSt B H' O0 O1 w' S' ∧ Grows S S' w w'
theorem GS.after {B : HB} {O0 O1 : Obj} {S : Nat → Prop} {Q : Int → Int → HM → Prop} {w w1 w' : World} {v er : Int} (h : GS B O0 O1 S Q w1 v er w') (hb : Below w.heap.size w w1) : GS B O0 O1 S Q w v er w' := by
  obtain ⟨H', S', hq, hh, hg⟩ := h
  exact ⟨H', S', hq, hh, hg.after_below hb⟩
theorem GS.m {B : HB} {O0 O1 : Obj} {S : Nat → Prop} {Q : Int → Int → HM → Prop} {w w' : World} {v er : Int} (h : GS B O0 O1 S Q w v er w') : Moved S w w' := by
  obtain ⟨H', S', hq, hh, hg⟩ := h
  exact hg.m
theorem GS.of_below {B : HB} {O0 O1 : Obj} {S : Nat → Prop} {Q : Int → Int → HM → Prop} {H : HM} {w w' : World} {v er : Int} (h : HeapSt B H O0 O1 w S) (hb : Below w.heap.size w w') (hq : Q v er H) : GS B O0 O1 S Q w v er w' :=
  ⟨H, S, hq, h.later hb, .below hb⟩
theorem GS.mono {B : HB} {O0 O1 : Obj} {S : Nat → Prop} {Q Q' : Int → Int → HM → Prop} {w w' : World} {v er : Int} (h : GS B O0 O1 S Q w v er w') (hq : ∀ v er H, Q v er H → Q' v er H) : GS B O0 O1 S Q' w v er w' := by
  obtain ⟨H', S', hq', hh, hg⟩ := h
  exact ⟨H', S', hq _ _ _ hq', hh, hg⟩

set_option maxRecDepth 100000 in
set_option maxHeartbeats 1000000 in
theorem act1_any (B : HB) (O0 O1 : Obj) (S : Nat → Prop) (Q : Int → Int → HM → Prop) (hv : Addr) (k a b c : Int) (w : World)
    (h : ∀ w1, Below w.heap.size w w1 → Calls Tryz.prog 58 #[.pointer (some hv), .int .u64 0] w1 fun e w' => ∃ v er, e = .returned (.tuple #[.int .u64 v, .int .i64 er]) ∧ GS B O0 O1 S Q w1 v er w') :
    Calls Tryz.prog 57 #[.pointer (some hv), opV k a b c] w fun e w' => ∃ v er, e = .returned (.tuple #[.int .u64 v, .int .i64 er]) ∧ GS B O0 O1 S Q w v er w' := by
  obtain ⟨X, hX⟩ : ∃ X, w.alloc (.cells #[.int .i64 k, .int .u64 a, .int .u64 b, .int .u64 c] 36) = X := ⟨_, rfl⟩
  have hbX : Below w.heap.size w X := by rw [← hX]; exact (Below.refl _ _).alloc (Nat.le_refl _) _
  have oX : X.heap[w.heap.size]? = some (.cells #[.int .i64 k, .int .u64 a, .int .u64 b, .int .u64 c] 36 (0, 0)) := by rw [← hX]; exact heap_alloc_eq _ _
  have k1 := heap_cell oX 1
  have k2 := heap_cell oX 2
  have k3 := heap_cell oX 3
  simp at k1 k2 k3
  have H := h X hbX
  have HB := Lib.hid hbX
  clear h oX hbX
  go_enter Tryz.func57, Tryz.ntmps57
  go_wp2_with fail
  try rw [hX]
  go_wp2_with fail
  refine H.mono ?_
  rintro e w2 ⟨v, er, rfl, hP⟩
  have HP := Lib.hid (hP.after HB.out)
  clear hP
  go_wp2
  go_ret2
  exact ⟨_, _, rfl, HP.out⟩

set_option maxRecDepth 100000 in
set_option maxHeartbeats 1000000 in
theorem act2_any (B : HB) (O0 O1 : Obj) (S : Nat → Prop) (Q : Int → Int → HM → Prop) (hv : Addr) (k a b c : Int) (w : World)
    (h : ∀ w1, Below w.heap.size w w1 → Calls Tryz.prog 62 #[.pointer (some hv), .int .u64 a] w1 fun e w' => ∃ er, e = .returned (.int .i64 er) ∧ GS B O0 O1 S Q w1 0 er w') :
    Calls Tryz.prog 61 #[.pointer (some hv), opV k a b c] w fun e w' => ∃ er, e = .returned (.int .i64 er) ∧ GS B O0 O1 S Q w 0 er w' := by
  obtain ⟨X, hX⟩ : ∃ X, w.alloc (.cells #[.int .i64 k, .int .u64 a, .int .u64 b, .int .u64 c] 36) = X := ⟨_, rfl⟩
  have hbX : Below w.heap.size w X := by rw [← hX]; exact (Below.refl _ _).alloc (Nat.le_refl _) _
  have oX : X.heap[w.heap.size]? = some (.cells #[.int .i64 k, .int .u64 a, .int .u64 b, .int .u64 c] 36 (0, 0)) := by rw [← hX]; exact heap_alloc_eq _ _
  have k1 := heap_cell oX 1
  have k2 := heap_cell oX 2
  have k3 := heap_cell oX 3
  simp at k1 k2 k3
  have H := h X hbX
  have HB := Lib.hid hbX
  clear h oX hbX
  go_enter Tryz.func61, Tryz.ntmps61
  go_wp2_with fail
  try rw [hX]
  go_wp2_with fail
  refine H.mono ?_
  rintro e w2 ⟨er, rfl, hP⟩
  have HP := Lib.hid (hP.after HB.out)
  clear hP
  go_wp2
  go_ret
  exact ⟨_, rfl, HP.out⟩

set_option maxRecDepth 100000 in
set_option maxHeartbeats 1000000 in
theorem act3_any (B : HB) (O0 O1 : Obj) (S : Nat → Prop) (Q : Int → Int → HM → Prop) (hv : Addr) (k a b c : Int) (w : World)
    (h : ∀ w1, Below w.heap.size w w1 → Calls Tryz.prog 66 #[.pointer (some hv), .int .u64 a, .int .u64 b, .int .u64 c] w1 fun e w' => ∃ er, e = .returned (.int .i64 er) ∧ GS B O0 O1 S Q w1 0 er w') :
    Calls Tryz.prog 65 #[.pointer (some hv), opV k a b c] w fun e w' => ∃ er, e = .returned (.int .i64 er) ∧ GS B O0 O1 S Q w 0 er w' := by
  obtain ⟨X, hX⟩ : ∃ X, w.alloc (.cells #[.int .i64 k, .int .u64 a, .int .u64 b, .int .u64 c] 36) = X := ⟨_, rfl⟩
  have hbX : Below w.heap.size w X := by rw [← hX]; exact (Below.refl _ _).alloc (Nat.le_refl _) _
  have oX : X.heap[w.heap.size]? = some (.cells #[.int .i64 k, .int .u64 a, .int .u64 b, .int .u64 c] 36 (0, 0)) := by rw [← hX]; exact heap_alloc_eq _ _
  have k1 := heap_cell oX 1
  have k2 := heap_cell oX 2
  have k3 := heap_cell oX 3
  simp at k1 k2 k3
  have H := h X hbX
  have HB := Lib.hid hbX
  clear h oX hbX
  go_enter Tryz.func65, Tryz.ntmps65
  go_wp2_with fail
  try rw [hX]
  go_wp2_with fail
  refine H.mono ?_
  rintro e w2 ⟨er, rfl, hP⟩
  have HP := Lib.hid (hP.after HB.out)
  clear hP
  go_wp2
  go_ret
  exact ⟨_, rfl, HP.out⟩

set_option maxRecDepth 100000 in
set_option maxHeartbeats 1000000 in
theorem act4_any (B : HB) (O0 O1 : Obj) (S : Nat → Prop) (Q : Int → Int → HM → Prop) (hv : Addr) (k a b c : Int) (w : World)
    (h : ∀ w1, Below w.heap.size w w1 → Calls Tryz.prog 68 #[.pointer (some hv), .int .u64 a, .int .u64 b] w1 fun e w' => ∃ v er, e = .returned (.tuple #[.int .u64 v, .int .i64 er]) ∧ GS B O0 O1 S Q w1 v er w') :
    Calls Tryz.prog 67 #[.pointer (some hv), opV k a b c] w fun e w' => ∃ v er, e = .returned (.tuple #[.int .u64 v, .int .i64 er]) ∧ GS B O0 O1 S Q w v er w' := by
  obtain ⟨X, hX⟩ : ∃ X, w.alloc (.cells #[.int .i64 k, .int .u64 a, .int .u64 b, .int .u64 c] 36) = X := ⟨_, rfl⟩
  have hbX : Below w.heap.size w X := by rw [← hX]; exact (Below.refl _ _).alloc (Nat.le_refl _) _
  have oX : X.heap[w.heap.size]? = some (.cells #[.int .i64 k, .int .u64 a, .int .u64 b, .int .u64 c] 36 (0, 0)) := by rw [← hX]; exact heap_alloc_eq _ _
  have k1 := heap_cell oX 1
  have k2 := heap_cell oX 2
  have k3 := heap_cell oX 3
  simp at k1 k2 k3
  have H := h X hbX
  have HB := Lib.hid hbX
  clear h oX hbX
  go_enter Tryz.func67, Tryz.ntmps67
  go_wp2_with fail
  try rw [hX]
  go_wp2_with fail
  refine H.mono ?_
  rintro e w2 ⟨v, er, rfl, hP⟩
  have HP := Lib.hid (hP.after HB.out)
  clear hP
  go_wp2
  go_ret2
  exact ⟨_, _, rfl, HP.out⟩

set_option maxRecDepth 100000 in
set_option maxHeartbeats 1000000 in
theorem act5_any (B : HB) (O0 O1 : Obj) (S : Nat → Prop) (Q : Int → Int → HM → Prop) (hv : Addr) (k a b c : Int) (w : World)
    (h : ∀ w1, Below w.heap.size w w1 → Calls Tryz.prog 70 #[.pointer (some hv), .int .u64 a, .int .u64 b] w1 fun e w' => ∃ er, e = .returned (.int .i64 er) ∧ GS B O0 O1 S Q w1 0 er w') :
    Calls Tryz.prog 69 #[.pointer (some hv), opV k a b c] w fun e w' => ∃ er, e = .returned (.int .i64 er) ∧ GS B O0 O1 S Q w 0 er w' := by
  obtain ⟨X, hX⟩ : ∃ X, w.alloc (.cells #[.int .i64 k, .int .u64 a, .int .u64 b, .int .u64 c] 36) = X := ⟨_, rfl⟩
  have hbX : Below w.heap.size w X := by rw [← hX]; exact (Below.refl _ _).alloc (Nat.le_refl _) _
  have oX : X.heap[w.heap.size]? = some (.cells #[.int .i64 k, .int .u64 a, .int .u64 b, .int .u64 c] 36 (0, 0)) := by rw [← hX]; exact heap_alloc_eq _ _
  have k1 := heap_cell oX 1
  have k2 := heap_cell oX 2
  have k3 := heap_cell oX 3
  simp at k1 k2 k3
  have H := h X hbX
  have HB := Lib.hid hbX
  clear h oX hbX
  go_enter Tryz.func69, Tryz.ntmps69
  go_wp2_with fail
  try rw [hX]
  go_wp2_with fail
  refine H.mono ?_
  rintro e w2 ⟨er, rfl, hP⟩
  have HP := Lib.hid (hP.after HB.out)
  clear hP
  go_wp2
  go_ret
  exact ⟨_, rfl, HP.out⟩

set_option maxRecDepth 100000 in
set_option maxHeartbeats 1000000 in
theorem act6_any (B : HB) (O0 O1 : Obj) (S : Nat → Prop) (Q : Int → Int → HM → Prop) (hv : Addr) (k a b c : Int) (w : World)
    (h : ∀ w1, Below w.heap.size w w1 → Calls Tryz.prog 72 #[.pointer (some hv), .int .u64 a] w1 fun e w' => ∃ v er, e = .returned (.tuple #[.int .u64 v, .int .i64 er]) ∧ GS B O0 O1 S Q w1 v er w') :
    Calls Tryz.prog 71 #[.pointer (some hv), opV k a b c] w fun e w' => ∃ v er, e = .returned (.tuple #[.int .u64 v, .int .i64 er]) ∧ GS B O0 O1 S Q w v er w' := by
  obtain ⟨X, hX⟩ : ∃ X, w.alloc (.cells #[.int .i64 k, .int .u64 a, .int .u64 b, .int .u64 c] 36) = X := ⟨_, rfl⟩
  have hbX : Below w.heap.size w X := by rw [← hX]; exact (Below.refl _ _).alloc (Nat.le_refl _) _
  have oX : X.heap[w.heap.size]? = some (.cells #[.int .i64 k, .int .u64 a, .int .u64 b, .int .u64 c] 36 (0, 0)) := by rw [← hX]; exact heap_alloc_eq _ _
  have k1 := heap_cell oX 1
  have k2 := heap_cell oX 2
  have k3 := heap_cell oX 3
  simp at k1 k2 k3
  have H := h X hbX
  have HB := Lib.hid hbX
  clear h oX hbX
  go_enter Tryz.func71, Tryz.ntmps71
  go_wp2_with fail
  try rw [hX]
  go_wp2_with fail
  refine H.mono ?_
  rintro e w2 ⟨v, er, rfl, hP⟩
  have HP := Lib.hid (hP.after HB.out)
  clear hP
  go_wp2
  go_ret2
  exact ⟨_, _, rfl, HP.out⟩

set_option maxRecDepth 100000 in
set_option maxHeartbeats 1000000 in
theorem act7_any (B : HB) (O0 O1 : Obj) (S : Nat → Prop) (Q : Int → Int → HM → Prop) (hv : Addr) (k a b c : Int) (w : World)
    (h : ∀ w1, Below w.heap.size w w1 → Calls Tryz.prog 74 #[.pointer (some hv), .int .u64 a] w1 fun e w' => ∃ er, e = .returned (.int .i64 er) ∧ GS B O0 O1 S Q w1 0 er w') :
    Calls Tryz.prog 73 #[.pointer (some hv), opV k a b c] w fun e w' => ∃ er, e = .returned (.int .i64 er) ∧ GS B O0 O1 S Q w 0 er w' := by
  obtain ⟨X, hX⟩ : ∃ X, w.alloc (.cells #[.int .i64 k, .int .u64 a, .int .u64 b, .int .u64 c] 36) = X := ⟨_, rfl⟩
  have hbX : Below w.heap.size w X := by rw [← hX]; exact (Below.refl _ _).alloc (Nat.le_refl _) _
  have oX : X.heap[w.heap.size]? = some (.cells #[.int .i64 k, .int .u64 a, .int .u64 b, .int .u64 c] 36 (0, 0)) := by rw [← hX]; exact heap_alloc_eq _ _
  have k1 := heap_cell oX 1
  have k2 := heap_cell oX 2
  have k3 := heap_cell oX 3
  simp at k1 k2 k3
  have H := h X hbX
  have HB := Lib.hid hbX
  clear h oX hbX
  go_enter Tryz.func73, Tryz.ntmps73
  go_wp2_with fail
  try rw [hX]
  go_wp2_with fail
  refine H.mono ?_
  rintro e w2 ⟨er, rfl, hP⟩
  have HP := Lib.hid (hP.after HB.out)
  clear hP
  go_wp2
  go_ret
  exact ⟨_, rfl, HP.out⟩

set_option maxRecDepth 100000 in
set_option maxHeartbeats 1000000 in
theorem act8_any (B : HB) (O0 O1 : Obj) (S : Nat → Prop) (Q : Int → Int → HM → Prop) (hv : Addr) (k a b c : Int) (w : World)
    (h : ∀ w1, Below w.heap.size w w1 → Calls Tryz.prog 76 #[.pointer (some hv)] w1 fun e w' => ∃ er, e = .returned (.int .i64 er) ∧ GS B O0 O1 S Q w1 0 er w') :
    Calls Tryz.prog 75 #[.pointer (some hv), opV k a b c] w fun e w' => ∃ er, e = .returned (.int .i64 er) ∧ GS B O0 O1 S Q w 0 er w' := by
  obtain ⟨X, hX⟩ : ∃ X, w.alloc (.cells #[.int .i64 k, .int .u64 a, .int .u64 b, .int .u64 c] 36) = X := ⟨_, rfl⟩
  have hbX : Below w.heap.size w X := by rw [← hX]; exact (Below.refl _ _).alloc (Nat.le_refl _) _
  have oX : X.heap[w.heap.size]? = some (.cells #[.int .i64 k, .int .u64 a, .int .u64 b, .int .u64 c] 36 (0, 0)) := by rw [← hX]; exact heap_alloc_eq _ _
  have k1 := heap_cell oX 1
  have k2 := heap_cell oX 2
  have k3 := heap_cell oX 3
  simp at k1 k2 k3
  have H := h X hbX
  have HB := Lib.hid hbX
  clear h oX hbX
  go_enter Tryz.func75, Tryz.ntmps75
  go_wp2_with fail
  try rw [hX]
  go_wp2_with fail
  refine H.mono ?_
  rintro e w2 ⟨er, rfl, hP⟩
  have HP := Lib.hid (hP.after HB.out)
  clear hP
  go_wp2
  go_ret
  exact ⟨_, rfl, HP.out⟩

set_option maxRecDepth 100000 in
set_option maxHeartbeats 1000000 in
theorem act9_any (B : HB) (O0 O1 : Obj) (S : Nat → Prop) (Q : Int → Int → HM → Prop) (hv : Addr) (k a b c : Int) (w : World)
    (h : ∀ w1, Below w.heap.size w w1 → Calls Tryz.prog 78 #[.pointer (some hv), .int .u64 a, .int .u64 b] w1 fun e w' => ∃ er, e = .returned (.int .i64 er) ∧ GS B O0 O1 S Q w1 0 er w') :
    Calls Tryz.prog 77 #[.pointer (some hv), opV k a b c] w fun e w' => ∃ er, e = .returned (.int .i64 er) ∧ GS B O0 O1 S Q w 0 er w' := by
  obtain ⟨X, hX⟩ : ∃ X, w.alloc (.cells #[.int .i64 k, .int .u64 a, .int .u64 b, .int .u64 c] 36) = X := ⟨_, rfl⟩
  have hbX : Below w.heap.size w X := by rw [← hX]; exact (Below.refl _ _).alloc (Nat.le_refl _) _
  have oX : X.heap[w.heap.size]? = some (.cells #[.int .i64 k, .int .u64 a, .int .u64 b, .int .u64 c] 36 (0, 0)) := by rw [← hX]; exact heap_alloc_eq _ _
  have k1 := heap_cell oX 1
  have k2 := heap_cell oX 2
  have k3 := heap_cell oX 3
  simp at k1 k2 k3
  have H := h X hbX
  have HB := Lib.hid hbX
  clear h oX hbX
  go_enter Tryz.func77, Tryz.ntmps77
  go_wp2_with fail
  try rw [hX]
  go_wp2_with fail
  refine H.mono ?_
  rintro e w2 ⟨er, rfl, hP⟩
  have HP := Lib.hid (hP.after HB.out)
  clear hP
  go_wp2
  go_ret
  exact ⟨_, rfl, HP.out⟩

set_option maxRecDepth 100000 in
set_option maxHeartbeats 1000000 in
theorem act10_any (B : HB) (O0 O1 : Obj) (S : Nat → Prop) (Q : Int → Int → HM → Prop) (hv : Addr) (k a b c : Int) (w : World)
    (h : ∀ w1, Below w.heap.size w w1 → Calls Tryz.prog 80 #[.pointer (some hv), .int .u64 a] w1 fun e w' => ∃ v er, e = .returned (.tuple #[.int .u64 v, .int .i64 er]) ∧ GS B O0 O1 S Q w1 v er w') :
    Calls Tryz.prog 79 #[.pointer (some hv), opV k a b c] w fun e w' => ∃ v er, e = .returned (.tuple #[.int .u64 v, .int .i64 er]) ∧ GS B O0 O1 S Q w v er w' := by
  obtain ⟨X, hX⟩ : ∃ X, w.alloc (.cells #[.int .i64 k, .int .u64 a, .int .u64 b, .int .u64 c] 36) = X := ⟨_, rfl⟩
  have hbX : Below w.heap.size w X := by rw [← hX]; exact (Below.refl _ _).alloc (Nat.le_refl _) _
  have oX : X.heap[w.heap.size]? = some (.cells #[.int .i64 k, .int .u64 a, .int .u64 b, .int .u64 c] 36 (0, 0)) := by rw [← hX]; exact heap_alloc_eq _ _
  have k1 := heap_cell oX 1
  have k2 := heap_cell oX 2
  have k3 := heap_cell oX 3
  simp at k1 k2 k3
  have H := h X hbX
  have HB := Lib.hid hbX
  clear h oX hbX
  go_enter Tryz.func79, Tryz.ntmps79
  go_wp2_with fail
  try rw [hX]
  go_wp2_with fail
  refine H.mono ?_
  rintro e w2 ⟨v, er, rfl, hP⟩
  have HP := Lib.hid (hP.after HB.out)
  clear hP
  go_wp2
  go_ret2
  exact ⟨_, _, rfl, HP.out⟩

set_option maxRecDepth 100000 in
set_option maxHeartbeats 1000000 in
theorem act11_any (B : HB) (O0 O1 : Obj) (S : Nat → Prop) (Q : Int → Int → HM → Prop) (hv : Addr) (k a b c : Int) (w : World)
    (h : ∀ w1, Below w.heap.size w w1 → Calls Tryz.prog 82 #[.pointer (some hv), .int .u64 a] w1 fun e w' => ∃ v er, e = .returned (.tuple #[.int .u64 v, .int .i64 er]) ∧ GS B O0 O1 S Q w1 v er w') :
    Calls Tryz.prog 81 #[.pointer (some hv), opV k a b c] w fun e w' => ∃ v er, e = .returned (.tuple #[.int .u64 v, .int .i64 er]) ∧ GS B O0 O1 S Q w v er w' := by
  obtain ⟨X, hX⟩ : ∃ X, w.alloc (.cells #[.int .i64 k, .int .u64 a, .int .u64 b, .int .u64 c] 36) = X := ⟨_, rfl⟩
  have hbX : Below w.heap.size w X := by rw [← hX]; exact (Below.refl _ _).alloc (Nat.le_refl _) _
  have oX : X.heap[w.heap.size]? = some (.cells #[.int .i64 k, .int .u64 a, .int .u64 b, .int .u64 c] 36 (0, 0)) := by rw [← hX]; exact heap_alloc_eq _ _
  have k1 := heap_cell oX 1
  have k2 := heap_cell oX 2
  have k3 := heap_cell oX 3
  simp at k1 k2 k3
  have H := h X hbX
  have HB := Lib.hid hbX
  clear h oX hbX
  go_enter Tryz.func81, Tryz.ntmps81
  go_wp2_with fail
  try rw [hX]
  go_wp2_with fail
  refine H.mono ?_
  rintro e w2 ⟨v, er, rfl, hP⟩
  have HP := Lib.hid (hP.after HB.out)
  clear hP
  go_wp2
  go_ret2
  exact ⟨_, _, rfl, HP.out⟩
end Go.Proofs.YtcenagpkfimkbaaGreatDoor
/-
  run.Machine: what it is in the model; sub, object, array.
-/
namespace Go.Proofs.YtcenagpkfimkbaaGreatDoor
open Go Go.RowKit
attribute [local go_sem ↓] Go.wp_at_zero Go.wp_at_succ

/-- A machine: its heap, its types' lengths. -/
structure MachAt (w : World) (mb hb : Nat) (fa : Option Addr) (fc : Nat) (fs : List Int) : Prop where
  blk : w.heap[mb]? = some (.cells #[.pointer (some ⟨hb, 0, none⟩), .slice fa fs.length fc] 74 (0, 0))
  rd : Reads .i64 w fa fs
theorem MachAt.later {w w' : World} {mb hb : Nat} {fa : Option Addr} {fc : Nat} {fs : List Int} (h : MachAt w mb hb fa fc fs) (hb' : Below w.heap.size w w') : MachAt w' mb hb fa fc fs :=
  ⟨heap_below hb' h.blk (heap_lt h.blk), h.rd.below hb'⟩
theorem MachAt.moved {w w' : World} {mb hb : Nat} {fa : Option Addr} {fc : Nat} {fs : List Int} {S : Nat → Prop} (h : MachAt w mb hb fa fc fs) (hm : Moved S w w') (h1 : ¬ S mb) (h2 : ∀ q, fa = some q → ¬ S q.block) : MachAt w' mb hb fa fc fs :=
  ⟨hm.heap h.blk h1, hm.reads h.rd h2⟩

/-- A call that answers a value and an error. -/
abbrev VE (B : HB) (O0 O1 : Obj) (S : Nat → Prop) (Q : Int → Int → HM → Prop) (w : World) (e : Ending) (w' : World) : Prop :=
  ∃ v er, e = .returned (.tuple #[.int .u64 v, .int .i64 er]) ∧ GS B O0 O1 S Q w v er w'

set_option maxRecDepth 100000 in
set_option maxHeartbeats 1000000 in
theorem sub_any {B : HB} {H : HM} {O0 O1 : Obj} {S : Nat → Prop} {mb : Nat} {fa : Option Addr} {fc : Nat} {fs : List Int} (Q : Int → Int → HM → Prop) (k a b c : Int) (w : World) (hm : MachAt w mb B.hb fa fc fs) (hh : HeapSt B H O0 O1 w S) (hsm : ¬ S mb)
    (h0 : a = 0 → Q 0 2 H) (h : a ≠ 0 → ∀ w1, Below w.heap.size w w1 → Calls Tryz.prog 58 #[.pointer (some ⟨B.hb, 0, none⟩), .int .u64 a] w1 (VE B O0 O1 S Q w1)) :
    Calls Tryz.prog 59 #[.pointer (some ⟨mb, 0, none⟩), opV k a b c] w (VE B O0 O1 S Q w) := by
  obtain ⟨X, hX⟩ : ∃ X, w.alloc (.cells #[.int .i64 k, .int .u64 a, .int .u64 b, .int .u64 c] 36) = X := ⟨_, rfl⟩
  have hbX : Below w.heap.size w X := by rw [← hX]; exact (Below.refl _ _).alloc (Nat.le_refl _) _
  have oX : X.heap[w.heap.size]? = some (.cells #[.int .i64 k, .int .u64 a, .int .u64 b, .int .u64 c] 36 (0, 0)) := by rw [← hX]; exact heap_alloc_eq _ _
  have k1 := heap_cell oX 1
  have m0 := heap_cell (hm.later hbX).blk 0
  simp at k1 m0
  have HN : Hid (¬ S w.heap.size) := Lib.hid (fun e => by have := hh.lt e; omega)
  have HB := Lib.hid hbX
  have HH := Lib.hid hh
  clear oX hbX hm
  by_cases ha : a = 0
  · subst ha
    have h1 := h0 rfl
    have H1 := Lib.hid h1
    clear h h0 h1 hh
    go_enter Tryz.func59, Tryz.ntmps59
    go_wp2_with fail
    try rw [hX]
    go_wp2
    go_ret2
    exact ⟨_, _, rfl, .of_below HH.out HB.out H1.out⟩
  · have y1 : (a == 0) = false := by simpa using ha
    have H := fun n => (h ha (X.drewN n) (HB.out.trans ⟨rfl, rfl, rfl, by simp, fun _ _ => rfl⟩)).mono (R' := fun e w' => ∃ v er, e = .returned (.tuple #[.int .u64 v, .int .i64 er]) ∧ GS B O0 O1 S Q w v er w' ∧ Moved S X w') (fun e w' ⟨v, er, he, hg⟩ => ⟨v, er, he, hg.after (HB.out.trans ⟨rfl, rfl, rfl, by simp, fun _ _ => rfl⟩), ⟨hg.m.os, hg.m.tape, hg.m.output, hg.m.size, hg.m.block⟩⟩)
    have HM := Lib.hid (And.intro k1 (And.intro m0 hsm))
    clear h h0 ha hh
    go_enter Tryz.func59, Tryz.ntmps59
    go_wp2_with fail
    try rw [hX]
    go_wp2_with fail
    go_region_held3 (fun w' => w'.cell? ⟨w.heap.size, 1, none⟩ = some (.int .u64 a) ∧ w'.cell? ⟨mb, 0, none⟩ = some (.pointer (some ⟨B.hb, 0, none⟩))) (first | exact hK.out | go_keep) ((go_at_call 58; refine (H _).mono ?_; rintro e w2 ⟨v, er, rfl, hP, hM⟩; have hK := Lib.hid (And.intro (hM.cell HM.out.1 HN.out) (hM.cell HM.out.2.1 HM.out.2.2)); have HP := Lib.hid hP; clear hP hM))
    all_goals
      go_wp2
      go_ret2
      exact ⟨_, _, rfl, HP.out⟩

/-- What array answers without a heap. -/
def arrE (b c : Int) : Int := if 255 < b then 4 else if 2147483647 < c then 1 else 0
set_option maxRecDepth 100000 in
set_option maxHeartbeats 2000000 in
theorem array_any {B : HB} {H : HM} {O0 O1 : Obj} {S : Nat → Prop} {mb : Nat} {fa : Option Addr} {fc : Nat} {fs : List Int} (Q : Int → Int → HM → Prop) (k a b c : Int) (w : World) (hm : MachAt w mb B.hb fa fc fs) (hh : HeapSt B H O0 O1 w S) (hsm : ¬ S mb) (b0 : 0 ≤ b) (c0 : 0 ≤ c)
    (h0 : arrE b c ≠ 0 → Q 0 (arrE b c) H) (h : arrE b c = 0 → ∀ w1, Below w.heap.size w w1 → Calls Tryz.prog 116 #[.pointer (some ⟨B.hb, 0, none⟩), .int .u64 a, .agg #[.bool true, .int .i64 b, .int .i64 0, .int .i64 c]] w1 (VE B O0 O1 S Q w1)) :
    Calls Tryz.prog 64 #[.pointer (some ⟨mb, 0, none⟩), opV k a b c] w (VE B O0 O1 S Q w) := by
  obtain ⟨X, hX⟩ : ∃ X, w.alloc (.cells #[.int .i64 k, .int .u64 a, .int .u64 b, .int .u64 c] 36) = X := ⟨_, rfl⟩
  have hbX : Below w.heap.size w X := by rw [← hX]; exact (Below.refl _ _).alloc (Nat.le_refl _) _
  have oX : X.heap[w.heap.size]? = some (.cells #[.int .i64 k, .int .u64 a, .int .u64 b, .int .u64 c] 36 (0, 0)) := by rw [← hX]; exact heap_alloc_eq _ _
  have k1 := heap_cell oX 1
  have k2 := heap_cell oX 2
  have k3 := heap_cell oX 3
  have m0 := heap_cell (hm.later hbX).blk 0
  simp at k1 k2 k3 m0
  have HN : Hid (¬ S w.heap.size) := Lib.hid (fun e => by have := hh.lt e; omega)
  have HB := Lib.hid hbX
  have HH := Lib.hid hh
  clear oX hbX hm
  by_cases hb : 255 < b
  · have e1 : arrE b c = 4 := by rw [arrE, if_pos hb]
    have h1 := h0 (by omega)
    rw [e1] at h1
    have H1 := Lib.hid h1
    clear h h0 h1 hh e1
    go_enter Tryz.func64, Tryz.ntmps64
    go_wp2_with fail
    try rw [hX]
    go_wp2
    go_ret2
    exact ⟨_, _, rfl, .of_below HH.out HB.out H1.out⟩
  · by_cases hc : 2147483647 < c
    · have e1 : arrE b c = 1 := by rw [arrE, if_neg hb, if_pos hc]
      have h1 := h0 (by omega)
      rw [e1] at h1
      have H1 := Lib.hid h1
      clear h h0 h1 hh e1
      go_enter Tryz.func64, Tryz.ntmps64
      go_wp2_with fail
      try rw [hX]
      go_wp2
      go_ret2
      exact ⟨_, _, rfl, .of_below HH.out HB.out H1.out⟩
    · have e1 : arrE b c = 0 := by rw [arrE, if_neg hb, if_neg hc]
      have H := fun n => (h e1 (X.drewN n) (HB.out.trans ⟨rfl, rfl, rfl, by simp, fun _ _ => rfl⟩)).mono (R' := fun e w' => ∃ v er, e = .returned (.tuple #[.int .u64 v, .int .i64 er]) ∧ GS B O0 O1 S Q w v er w' ∧ Moved S X w') (fun e w' ⟨v, er, he, hg⟩ => ⟨v, er, he, hg.after (HB.out.trans ⟨rfl, rfl, rfl, by simp, fun _ _ => rfl⟩), ⟨hg.m.os, hg.m.tape, hg.m.output, hg.m.size, hg.m.block⟩⟩)
      have HM := Lib.hid (And.intro k1 (And.intro k2 (And.intro k3 (And.intro m0 hsm))))
      have y1 : IntKind.i64.wrap b = b := by rw [IntKind.wrap_i64]; omega
      have y2 : IntKind.i64.wrap c = c := by rw [IntKind.wrap_i64]; omega
      clear h h0 hh e1
      go_enter Tryz.func64, Tryz.ntmps64
      go_wp2_with fail
      try rw [hX]
      go_wp2_with fail
      go_region_held3 (fun w' => w'.cell? ⟨w.heap.size, 1, none⟩ = some (.int .u64 a) ∧ w'.cell? ⟨w.heap.size, 2, none⟩ = some (.int .u64 b) ∧ w'.cell? ⟨w.heap.size, 3, none⟩ = some (.int .u64 c) ∧ w'.cell? ⟨mb, 0, none⟩ = some (.pointer (some ⟨B.hb, 0, none⟩))) (first | exact hK.out | go_keep) ((go_at_call 116; refine (H _).mono ?_; rintro e w2 ⟨v, er, rfl, hP, hM⟩; have hK := Lib.hid (And.intro (hM.cell HM.out.1 HN.out) (And.intro (hM.cell HM.out.2.1 HN.out) (And.intro (hM.cell HM.out.2.2.1 HN.out) (hM.cell HM.out.2.2.2.1 HM.out.2.2.2.2)))); have HP := Lib.hid hP; clear hP hM))
      all_goals
        go_wp2
        go_ret2
        exact ⟨_, _, rfl, HP.out⟩

/-- What object answers without a heap. -/
def objE (fs : List Int) (b : Int) : Int := if (fs.length : Int) ≤ b then 2 else 0
set_option maxRecDepth 100000 in
set_option maxHeartbeats 2000000 in
theorem object_any {B : HB} {H : HM} {O0 O1 : Obj} {S : Nat → Prop} {mb : Nat} {fa : Option Addr} {fc : Nat} {fs : List Int} (Q : Int → Int → HM → Prop) (k a b c : Int) (w : World) (hm : MachAt w mb B.hb fa fc fs) (hh : HeapSt B H O0 O1 w S) (hsm : ¬ S mb) (hsf : ∀ q, fa = some q → ¬ S q.block) (hfs : fs.length ≤ 1000) (b0 : 0 ≤ b) 
    (h0 : objE fs b ≠ 0 → Q 0 (objE fs b) H) (h : objE fs b = 0 → ∀ w1, Below w.heap.size w w1 → Calls Tryz.prog 116 #[.pointer (some ⟨B.hb, 0, none⟩), .int .u64 a, .agg #[.bool false, .int .i64 0, .int .i64 b, .int .i64 (fs.getD b.toNat 0)]] w1 (VE B O0 O1 S Q w1)) :
    Calls Tryz.prog 63 #[.pointer (some ⟨mb, 0, none⟩), opV k a b c] w (VE B O0 O1 S Q w) := by
  obtain ⟨X, hX⟩ : ∃ X, w.alloc (.cells #[.int .i64 k, .int .u64 a, .int .u64 b, .int .u64 c] 36) = X := ⟨_, rfl⟩
  have hbX : Below w.heap.size w X := by rw [← hX]; exact (Below.refl _ _).alloc (Nat.le_refl _) _
  have oX : X.heap[w.heap.size]? = some (.cells #[.int .i64 k, .int .u64 a, .int .u64 b, .int .u64 c] 36 (0, 0)) := by rw [← hX]; exact heap_alloc_eq _ _
  have k1 := heap_cell oX 1
  have k2 := heap_cell oX 2
  have k3 := heap_cell oX 3
  have m0 := heap_cell (hm.later hbX).blk 0
  have m1 := heap_cell (hm.later hbX).blk 1
  simp at k1 k2 k3 m0 m1
  have HN : Hid (¬ S w.heap.size) := Lib.hid (fun e => by have := hh.lt e; omega)
  have HB := Lib.hid hbX
  have HH := Lib.hid hh
  have HR := Lib.hid (hm.later hbX).rd
  have hlen : (0 : Int) ≤ (fs.length : Int) := by omega
  have y0 : IntKind.u64.wrap (fs.length : Int) = (fs.length : Int) := by rw [IntKind.wrap_u64]; omega
  clear oX hbX hm
  by_cases hb : (fs.length : Int) ≤ b
  · have e1 : objE fs b = 2 := by rw [objE, if_pos hb]
    have h1 := h0 (by omega)
    rw [e1] at h1
    have H1 := Lib.hid h1
    clear h h0 h1 hh e1
    go_enter Tryz.func63, Tryz.ntmps63
    go_wp2_with fail
    try rw [hX]
    go_wp2_with fail
    go_quiet (fail)
    go_wp2
    go_ret2
    exact ⟨_, _, rfl, .of_below HH.out (HB.out.trans ⟨rfl, rfl, rfl, by simp, fun _ _ => rfl⟩) H1.out⟩
  · have e1 : objE fs b = 0 := by rw [objE, if_neg hb]
    obtain ⟨j, rfl⟩ : ∃ j : Nat, b = (j : Int) := ⟨b.toNat, by omega⟩
    have hj : j < fs.length := by omega
    obtain ⟨fb, fo, rfl, hfc⟩ := HR.out.at_ j hj
    obtain ⟨x, hx⟩ : ∃ x, fs[j]?.getD 0 = x := ⟨_, rfl⟩
    rw [hx] at hfc
    have hx2 : fs.getD (j : Int).toNat 0 = x := by simp [List.getD, hx]
    rw [hx2] at h
    have nf := hsf _ rfl
    have H := fun (w1 : World) (hE : w1.os = X.os ∧ w1.tape = X.tape ∧ w1.output = X.output ∧ w1.heap = X.heap) => have hb1 : Below w.heap.size w w1 := HB.out.trans ⟨hE.1, hE.2.1, hE.2.2.1, by rw [hE.2.2.2]; exact Nat.le_refl _, fun _ _ => by rw [hE.2.2.2]⟩; (h e1 w1 hb1).mono (R' := fun e w' => ∃ v er, e = .returned (.tuple #[.int .u64 v, .int .i64 er]) ∧ GS B O0 O1 S Q w v er w' ∧ Moved S X w') (fun e w' ⟨v, er, he, hg⟩ => ⟨v, er, he, hg.after hb1, ⟨hg.m.os.trans hE.1, hg.m.tape.trans hE.2.1, hg.m.output.trans hE.2.2.1, by have := hg.m.size; rw [hE.2.2.2] at this; exact this, by have := hg.m.block; rw [hE.2.2.2] at this; exact this⟩⟩)
    have HM := Lib.hid (And.intro k1 (And.intro k2 (And.intro m0 (And.intro m1 (And.intro hfc (And.intro hsm nf))))))
    have y1 : IntKind.i64.wrap (j : Int) = j := by rw [IntKind.wrap_i64]; omega
    have z1 : (0 : Int) ≤ (j : Int) := by omega
    have z2 : (j : Int) < (fs.length : Int) := by omega
    clear h h0 hh e1 hx hx2 nf hsf
    go_enter Tryz.func63, Tryz.ntmps63
    go_wp2_with fail
    try rw [hX]
    go_wp2_with fail
    go_quiet (fail)
    go_wp2_with fail
    go_region_held3 (fun w' => w'.cell? ⟨w.heap.size, 1, none⟩ = some (.int .u64 a) ∧ w'.cell? ⟨w.heap.size, 2, none⟩ = some (.int .u64 j) ∧ w'.cell? ⟨mb, 0, none⟩ = some (.pointer (some ⟨B.hb, 0, none⟩)) ∧ w'.cell? ⟨mb, 1, none⟩ = some (.slice (some ⟨fb, fo, none⟩) fs.length fc) ∧ w'.cell? ⟨fb, fo + j, none⟩ = some (.int .i64 x)) (first | exact hK.out | go_keep) ((go_at_call 116; refine (H _ (by exact ⟨rfl, rfl, rfl, rfl⟩)).mono ?_; rintro e w2 ⟨v, er, rfl, hP, hM⟩; have hK := Lib.hid (And.intro (hM.cell HM.out.1 HN.out) (And.intro (hM.cell HM.out.2.1 HN.out) (And.intro (hM.cell HM.out.2.2.1 HM.out.2.2.2.2.2.1) (And.intro (hM.cell HM.out.2.2.2.1 HM.out.2.2.2.2.2.1) (hM.cell HM.out.2.2.2.2.1 HM.out.2.2.2.2.2.2))))); have HP := Lib.hid hP; clear hP hM))
    all_goals
      go_wp2
      go_ret2
      exact ⟨_, _, rfl, HP.out⟩
end Go.Proofs.YtcenagpkfimkbaaGreatDoor
/-
  A list of types that a call makes: its rows, and what it is in the model.
-/
namespace Go.Proofs.YtcenagpkfimkbaaGreatDoor
open Go Go.RowKit

theorem info_desc : (Tryz.prog.info? 76).map (fun i => (i.zero, i.size, i.bytes)) = some (some (.agg #[.slice none 0 0]), 1, 24) := by kernel_rfl

theorem owns_le2 {w : World} {B B' : Nat} {t : TypeId} {size n : Nat} {v : Value} {xs : List Value} (h : w.ownsRow B t size v n xs) (hb : B' ≤ B) : w.ownsRow B' t size v n xs :=
  ⟨h.1, h.2.elim .inl fun ⟨g, cap, cur, hv, hg, r⟩ => .inr ⟨g, cap, cur, hv, Nat.le_trans hb hg, r⟩⟩
theorem owns_ne {w : World} {B B' : Nat} {t t' : TypeId} {size size' : Nat} {v v' : Value} {n n' : Nat} {xs xs' : List Value} (h : w.ownsRow B t size v n xs) (h' : w.ownsRow B' t' size' v' n' xs') (ht : t ≠ t') : v.ownBlock = none ∨ v.ownBlock ≠ v'.ownBlock := by
  rcases h.2 with ⟨rfl, _⟩ | ⟨g, cap, cur, rfl, _, hg, _⟩
  · exact .inl rfl
  · refine .inr fun e => ?_
    rcases h'.2 with ⟨rfl, _⟩ | ⟨g', cap', cur', rfl, _, hg', _⟩
    · simp [Value.ownBlock] at e
    · simp [Value.ownBlock] at e
      subst e
      rw [hg] at hg'
      simp at hg'
      exact ht hg'.2

/-- The rows of a list of types, each its own. -/
def RowsOf (w : World) (B : Nat) (us : List Value) (ds : List (List Int)) : Prop :=
  us.length = ds.length ∧ ∀ (q : Nat) (d : List Int), ds[q]? = some d → ∃ u, us[q]? = some u ∧ w.ownsRow B 3 1 u d.length (d.map (Value.int .i64))
theorem RowsOf.below {w w' : World} {B : Nat} {us : List Value} {ds : List (List Int)} (h : RowsOf w B us ds) (hb : Below w.heap.size w w') : RowsOf w' B us ds :=
  ⟨h.1, fun q d hq => by obtain ⟨u, h1, h2⟩ := h.2 q d hq; exact ⟨u, h1, (Moved.of_below hb (fun _ => False)).owns h2 (fun _ _ e => e)⟩⟩
theorem RowsOf.grown {w w' : World} {B B' : Nat} {us : List Value} {ds : List (List Int)} {t : TypeId} {v : Value} {n : Nat} {xs : List Value} (h : RowsOf w B us ds) (ho : w.ownsRow B' t 1 v n xs) (ht : 3 ≠ t) (hg : w.grownBy w' v.ownBlock) : RowsOf w' B us ds :=
  ⟨h.1, fun q d hq => by obtain ⟨u, h1, h2⟩ := h.2 q d hq; exact ⟨u, h1, h2.kept hg (owns_ne h2 ho ht)⟩⟩
theorem RowsOf.snoc {w : World} {B : Nat} {us : List Value} {ds : List (List Int)} (h : RowsOf w B us ds) {u : Value} {d : List Int} (hr : w.ownsRow B 3 1 u d.length (d.map (Value.int .i64))) : RowsOf w B (us ++ [u]) (ds ++ [d]) := by
  refine ⟨by simp [h.1], fun q d' hq => ?_⟩
  by_cases e : q < ds.length
  · rw [List.getElem?_append_left e] at hq
    obtain ⟨u', h1, h2⟩ := h.2 q d' hq
    exact ⟨u', by rw [List.getElem?_append_left (by rw [h.1]; exact e)]; exact h1, h2⟩
  · have hl := (List.getElem?_eq_some_iff.1 hq).1
    obtain rfl : q = ds.length := by simp at hl; omega
    simp at hq
    subst hq
    exact ⟨u, by rw [← h.1]; simp, hr⟩
theorem descs_of_rows {w : World} {B B' : Nat} {v : Value} {us : List Value} {ds : List (List Int)} (h : w.ownsRow B 76 1 v us.length us) (hr : RowsOf w B' us ds) :
    ∃ a c, v = .slice a ds.length c ∧ Descs w a ds := by
  rcases h.2 with ⟨rfl, h0⟩ | ⟨g, cap, cur, rfl, hB, hg, hn, hm, hs, ht⟩
  · have : ds = [] := List.length_eq_zero_iff.1 (by rw [← hr.1]; exact h0)
    subst this
    exact ⟨none, 0, rfl, .inl rfl⟩
  · refine ⟨some ⟨g, 0, none⟩, cap, by rw [hr.1], .inr ⟨g, 0, rfl, fun i hi => ?_⟩⟩
    have hx : ds[i]? = some (ds.getD i []) := by simp [hi]
    obtain ⟨u, h1, h2⟩ := hr.2 i _ hx
    obtain ⟨fa, c, rfl, hrd, _, _⟩ := owns_reads h2
    obtain ⟨fa', c', e, _, h3, _⟩ := owns_slice h2
    simp only [Value.slice.injEq] at e
    obtain ⟨rfl, _, rfl⟩ := e
    refine ⟨fa, c, ?_, hrd, fun e => ⟨List.length_eq_zero_iff.1 (h3 e).1, (h3 e).2⟩⟩
    rw [Nat.zero_add, heap_cell hg]
    have : (cur.toList.take (us.length * 1))[i]? = us[i]? := by rw [ht]
    rw [Nat.mul_one, List.getElem?_take, if_pos (by rw [hr.1]; exact hi)] at this
    simpa [h1] using this

theorem new_cell (w : World) (v : Value) (t : TypeId) : ∀ (j : Nat) (u : Value), [v][j]? = some u → (w.alloc (.cells #[v] t)).cell? ((⟨w.heap.size, 0, none⟩ : Addr).add j) = some u := by
  intro j u h
  match j, h with
  | 0, h => simp at h; subst h; simp [Addr.add]
theorem one_ok (v : Value) (h : v.oneCell' = true) : ∀ u ∈ [v], u.oneCell' = true := by
  intro u hu; simp at hu; subst hu; exact h
theorem take_all {α : Type} {xs : List α} {m : Nat} (h : xs.length ≤ m) : xs.take m = xs := List.take_of_length_le h


theorem typesP_of_rows {w : World} {B : Nat} {v : Value} {us : List Value} {ds : List (List Int)} (h : w.ownsRow B 76 1 v us.length us) (hr : RowsOf w B us ds) :
    ∃ a c, v = .slice a ds.length c ∧ TypesP a ds w (fun k => B ≤ k ∧ k < w.heap.size) := by
  rcases h.2 with ⟨rfl, h0⟩ | ⟨g, cap, cur, rfl, hB, hg, hn, hm, hs, ht⟩
  · have : ds = [] := List.length_eq_zero_iff.1 (by rw [← hr.1]; exact h0)
    subst this
    exact ⟨none, 0, rfl, .inl rfl, fun k hk => hk.2⟩
  · refine ⟨some ⟨g, 0, none⟩, cap, by rw [hr.1], .inr ⟨g, 0, rfl, ⟨hB, heap_lt hg⟩, fun i hi => ?_⟩, fun k hk => hk.2⟩
    have hx : ds[i]? = some (ds.getD i []) := by simp [hi]
    obtain ⟨u, h1, h2⟩ := hr.2 i _ hx
    obtain ⟨fa, c, rfl, hrd, hq, _⟩ := owns_reads h2
    obtain ⟨fa', c', e, _, h3, _⟩ := owns_slice h2
    simp only [Value.slice.injEq] at e
    obtain ⟨rfl, _, rfl⟩ := e
    refine ⟨fa, c, ?_, hrd, fun e => ⟨List.length_eq_zero_iff.1 (h3 e).1, (h3 e).2⟩, fun q e => hq q e⟩
    rw [Nat.zero_add, heap_cell hg]
    have : (cur.toList.take (us.length * 1))[i]? = us[i]? := by rw [ht]
    rw [Nat.mul_one, List.getElem?_take, if_pos (by rw [hr.1]; exact hi)] at this
    simpa [h1] using this

/-- A thing is laid beside others, in new memory. -/
theorem Sep.add {P : Nat → HP} (o : ∀ i, (P i).Ok) {w w' : World} {S S0 : Nat → Prop} (h : Sep P w S) (i : Nat) (hi : 0 < i) (_he : P i = hemp) {p : HP} (hp : p w' S0) (hb : Below w.heap.size w w') (hs : ∀ k, S0 k → w.heap.size ≤ k) :
    ∃ S', Sep (upd P i p) w' S' ∧ Grows S S' w w' := by
  obtain ⟨S1, h1, _, hc⟩ := Sep.open_ o h i hi
  exact hc w' S0 p hp ⟨Moved.of_below hb _, fun k hk => .inr (hs k hk)⟩
end Go.Proofs.YtcenagpkfimkbaaGreatDoor
/-
  desc.May and desc.List, and the document's.
-/
namespace Go.Proofs.YtcenagpkfimkbaaGreatDoor
open Go Go.RowKit

def mayD (d : List Int) : Bool := decide (1 ≤ d.length ∧ d.length ≤ 60) && d.all kindB
def listD (ds : List (List Int)) : Bool := decide (ds.length ≤ 32) && ds.all mayD
theorem all_take_succ {α : Type} {p : α → Bool} {xs : List α} {j : Nat} {x : α} (h : xs[j]? = some x) : (xs.take (j + 1)).all p = ((xs.take j).all p && p x) := by
  rw [List.take_add_one, h]
  simp
theorem all_false_of {α : Type} {p : α → Bool} {xs : List α} {j : Nat} {x : α} (h : xs[j]? = some x) (hp : p x = false) : xs.all p = false := by
  rw [List.all_eq_false]
  exact ⟨x, List.mem_of_getElem? h, by simp [hp]⟩

theorem May1_any (k : Int) (w : World) (h0 : Tab w) :
    Calls Tryz.prog 139 #[.int .i64 k] w fun e w' => e = .returned (.bool (!(kindB k))) ∧ w = w' := by
  go_enter Tryz.func139, Tryz.ntmps139
  go_wp2_with (go_at_call 140; refine (Kind_any _ _ h0).mono ?_; rintro e w' ⟨rfl, rfl⟩)
  go_ret
  exact ⟨rfl, rfl⟩

/-- Which is the first, or -1. -/
def IdxRet (B : Bool) (w : World) (e : Ending) (w' : World) : Prop := ∃ r : Int, e = .returned (.int .i64 r) ∧ decide (0 ≤ r) = B ∧ Below w.heap.size w w'

set_option maxHeartbeats 1000000 in
theorem IndexFuncI_any (a : Option Addr) (xs : List Int) (c : Nat) (w : World) (h0 : Tab w) (hR : Reads .i64 w a xs) (hn : xs.length ≤ 9223372036854775807) :
    Calls Tryz.prog 180 #[.slice a xs.length c, .func (.func 139) #[] #[]] w (IdxRet (!(xs.all kindB)) w) := by
  have eg := enters_of Tryz.func139 (by kernel_rfl) rfl
  have HT := Lib.hid h0
  clear h0
  go_enter Tryz.func180, Tryz.ntmps180
  go_wp2
  go_loopw [5, 8] (fun _ i wr => ∃ j : Nat, j ≤ xs.length ∧ i = .int .i64 j ∧ Hid ((xs.take j).all kindB = true) ∧ wr = w) (fun _ i _ => xs.length - (intOf i).toNat)
  case atStart => exact ⟨0, Nat.zero_le _, rfl, Lib.hid (by simp), rfl⟩
  case round =>
    obtain ⟨j, hj, rfl, hA, rfl⟩ := hrel
    by_cases hlt : j < xs.length
    · obtain ⟨b, off, rfl, hc⟩ := hR.at_ j hlt
      obtain ⟨x, hx⟩ : ∃ x, xs[j]?.getD 0 = x := ⟨_, rfl⟩
      have hx2 : xs[j]? = some x := by rw [List.getElem?_eq_getElem hlt] at hx ⊢; simp only [Option.getD_some] at hx; rw [hx]
      rw [hx] at hc
      have HX := Lib.hid hx2
      clear hx hx2 hR
      have hP := May1_any x wr HT.out
      cases hk : kindB x
      · rw [hk] at hP
        have HK := Lib.hid hk
        clear hk
        go_wp2_with (go_at_call 139; refine hP.mono ?_; rintro e w' ⟨rfl, rfl⟩)
        go_ret
        exact ⟨_, rfl, by rw [all_false_of HX.out HK.out]; simp, Below.refl _ _⟩
      · rw [hk] at hP
        have HK := Lib.hid hk
        clear hk
        go_wp2_with (go_at_call 139; refine hP.mono ?_; rintro e w' ⟨rfl, rfl⟩)
        go_roundw
        case rel => exact ⟨j + 1, by omega, by go_num, Lib.hid (by rw [all_take_succ HX.out, hA.out, HK.out]; rfl), trivial⟩
        case measure => simp [intOf]; omega
    · obtain rfl : j = xs.length := by omega
      go_wp2
      go_ret
      have h1 := hA.out
      rw [List.take_length] at h1
      exact ⟨_, rfl, by rw [h1]; rfl, Below.refl _ _⟩
theorem ContainsFuncI_any (a : Option Addr) (xs : List Int) (c : Nat) (w : World) (h0 : Tab w) (hR : Reads .i64 w a xs) (hn : xs.length ≤ 9223372036854775807) :
    Calls Tryz.prog 141 #[.slice a xs.length c, .func (.func 139) #[] #[]] w fun e w' => e = .returned (.bool (!(xs.all kindB))) ∧ Below w.heap.size w w' := by
  have hI := IndexFuncI_any a xs c w h0 hR hn
  generalize (!(xs.all kindB)) = B at hI ⊢
  clear h0 hR
  go_enter Tryz.func141, Tryz.ntmps141
  go_wp2_with fail
  refine hI.mono ?_
  rintro e w' ⟨r, rfl, hr, hb⟩
  have HR := Lib.hid hr
  clear hr
  go_wp2
  go_ret
  exact ⟨ret_bool HR.out, hb⟩

set_option maxHeartbeats 1000000 in
theorem May_any (fa : Option Addr) (d : List Int) (c : Nat) (w : World) (h0 : Tab w) (hR : Reads .i64 w fa d) (hn : d.length ≤ 9223372036854775807) :
    Calls Tryz.prog 95 #[.agg #[.slice fa d.length c]] w fun e w' => e = .returned (.bool (mayD d)) ∧ Below w.heap.size w w' := by
  have hbo : Below w.heap.size w (w.alloc (.cells #[.slice fa d.length c] 76)) := (Below.refl _ _).alloc (Nat.le_refl _) _
  have HB := Lib.hid hbo
  have hC := ContainsFuncI_any fa d c _ (h0.below h0.lt hbo) (hR.below hbo) hn
  clear h0 hR hbo
  rcases (show d.length < 1 ∨ (1 ≤ d.length ∧ 60 < d.length) ∨ (1 ≤ d.length ∧ d.length ≤ 60) by omega) with h | ⟨h1, h2⟩ | ⟨h1, h2⟩
  · have e1 : mayD d = false := by simp [mayD]; omega
    rw [e1]
    clear hC e1
    have i1 : ¬ (1 : Int) ≤ (d.length : Int) := by omega
    go_enter Tryz.func95, Tryz.ntmps95
    go_wp2
    go_ret
    exact ⟨rfl, HB.out⟩
  · have e1 : mayD d = false := by simp [mayD]; omega
    rw [e1]
    clear hC e1
    have i1 : (1 : Int) ≤ (d.length : Int) := by omega
    have i2 : ¬ (d.length : Int) ≤ 60 := by omega
    go_enter Tryz.func95, Tryz.ntmps95
    go_wp2
    go_ret
    exact ⟨rfl, HB.out⟩
  · have e1 : mayD d = d.all kindB := by simp [mayD, h1, h2]
    rw [e1]
    generalize d.all kindB = B at hC ⊢
    have i1 : (1 : Int) ≤ (d.length : Int) := by omega
    have i2 : (d.length : Int) ≤ 60 := by omega
    clear e1
    go_enter Tryz.func95, Tryz.ntmps95
    go_wp2_with fail
    refine hC.mono ?_
    rintro e w1 ⟨rfl, hb1⟩
    clear hC
    go_wp2
    go_ret
    exact ⟨by simp, HB.out.trans (hb1.mono HB.out.size)⟩
theorem List1_any (fa : Option Addr) (d : List Int) (c : Nat) (w : World) (h0 : Tab w) (hR : Reads .i64 w fa d) (hn : d.length ≤ 9223372036854775807) :
    Calls Tryz.prog 94 #[.agg #[.slice fa d.length c]] w fun e w' => e = .returned (.bool (!(mayD d))) ∧ Below w.heap.size w w' := by
  have hbo : Below w.heap.size w (w.alloc (.cells #[.slice fa d.length c] 76)) := (Below.refl _ _).alloc (Nat.le_refl _) _
  have HB := Lib.hid hbo
  have hM := May_any fa d c _ (h0.below h0.lt hbo) (hR.below hbo) hn
  clear h0 hR hbo
  go_enter Tryz.func94, Tryz.ntmps94
  go_wp2_with fail
  refine hM.mono ?_
  rintro e w1 ⟨rfl, hb1⟩
  clear hM
  go_wp2
  go_ret
  exact ⟨rfl, HB.out.trans (hb1.mono HB.out.size)⟩

set_option maxHeartbeats 1000000 in
theorem IndexFuncD_any (a : Option Addr) (ds : List (List Int)) (c : Nat) (w : World) (h0 : Tab w) (hD : Descs w a ds) (hd : ∀ d ∈ ds, d.length ≤ 4000) (hn : ds.length ≤ 9223372036854775807) :
    Calls Tryz.prog 142 #[.slice a ds.length c, .func (.func 94) #[] #[]] w (IdxRet (!(ds.all mayD)) w) := by
  have eg := enters_of Tryz.func94 (by kernel_rfl) rfl
  have H := Lib.hid (And.intro h0 (And.intro hD hd))
  clear h0 hD hd
  go_enter Tryz.func142, Tryz.ntmps142
  go_wp2
  go_loopw [5, 8] (fun _ i wr => ∃ j : Nat, j ≤ ds.length ∧ i = .int .i64 j ∧ Hid ((ds.take j).all mayD = true) ∧ Below w.heap.size w wr) (fun _ i _ => ds.length - (intOf i).toNat)
  case atStart => exact ⟨0, Nat.zero_le _, rfl, Lib.hid (by simp), Below.refl _ _⟩
  case round =>
    obtain ⟨j, hj, rfl, hA, hB⟩ := hrel
    by_cases hlt : j < ds.length
    · obtain ⟨b, off, fa, fc, d, rfl, hx2, hc, hr, _⟩ := (H.out.2.1.below hB).at_ j hlt
      have HX := Lib.hid hx2
      have hP := List1_any fa d fc wr (H.out.1.below H.out.1.lt hB) hr (by have := H.out.2.2 d (List.mem_of_getElem? hx2); omega)
      clear hx2 hr
      cases hk : mayD d
      · rw [hk] at hP
        have HK := Lib.hid hk
        clear hk
        go_wp2_with fail
        refine hP.mono ?_
        rintro e w' ⟨rfl, hb⟩
        clear hP hc
        go_wp2
        go_ret
        exact ⟨_, rfl, by rw [all_false_of HX.out HK.out]; simp, hB.trans (hb.mono hB.size)⟩
      · rw [hk] at hP
        have HK := Lib.hid hk
        clear hk
        go_wp2_with fail
        refine hP.mono ?_
        rintro e w' ⟨rfl, hb⟩
        clear hP hc
        go_wp2
        go_roundw
        case rel => exact ⟨j + 1, by omega, by go_num, Lib.hid (by rw [all_take_succ HX.out, hA.out, HK.out]; rfl), hB.trans (hb.mono hB.size)⟩
        case measure => simp [intOf]; omega
    · obtain rfl : j = ds.length := by omega
      go_wp2
      go_ret
      have h1 := hA.out
      rw [List.take_length] at h1
      exact ⟨_, rfl, by rw [h1]; rfl, hB⟩
theorem ContainsFuncD_any (a : Option Addr) (ds : List (List Int)) (c : Nat) (w : World) (h0 : Tab w) (hD : Descs w a ds) (hd : ∀ d ∈ ds, d.length ≤ 4000) (hn : ds.length ≤ 9223372036854775807) :
    Calls Tryz.prog 96 #[.slice a ds.length c, .func (.func 94) #[] #[]] w fun e w' => e = .returned (.bool (!(ds.all mayD))) ∧ Below w.heap.size w w' := by
  have hI := IndexFuncD_any a ds c w h0 hD hd hn
  generalize (!(ds.all mayD)) = B at hI ⊢
  clear h0 hD hd
  go_enter Tryz.func96, Tryz.ntmps96
  go_wp2_with fail
  refine hI.mono ?_
  rintro e w' ⟨r, rfl, hr, hb⟩
  have HR := Lib.hid hr
  clear hr
  go_wp2
  go_ret
  exact ⟨ret_bool HR.out, hb⟩
theorem List_any (a : Option Addr) (ds : List (List Int)) (c : Nat) (w : World) (h0 : Tab w) (hD : Descs w a ds) (hd : ∀ d ∈ ds, d.length ≤ 4000) (hn : ds.length ≤ 9223372036854775807) :
    Calls Tryz.prog 38 #[.slice a ds.length c] w fun e w' => e = .returned (.bool (listD ds)) ∧ Below w.heap.size w w' := by
  have hC := ContainsFuncD_any a ds c w h0 hD hd hn
  clear h0 hD hd
  by_cases h : ds.length ≤ 32
  · have e1 : listD ds = ds.all mayD := by simp [listD, h]
    rw [e1]
    generalize ds.all mayD = B at hC ⊢
    have i1 : (ds.length : Int) ≤ 32 := by omega
    clear e1 h
    go_enter Tryz.func38, Tryz.ntmps38
    go_wp2_with fail
    refine hC.mono ?_
    rintro e w1 ⟨rfl, hb1⟩
    clear hC
    go_wp2
    go_ret
    exact ⟨by simp, hb1⟩
  · have e1 : listD ds = false := by simp [listD]; omega
    rw [e1]
    have i1 : ¬ (ds.length : Int) ≤ 32 := by omega
    clear e1 hC h
    go_enter Tryz.func38, Tryz.ntmps38
    go_wp2
    go_ret
    exact ⟨rfl, Below.refl _ _⟩
end Go.Proofs.YtcenagpkfimkbaaGreatDoor
/-
  heap.New: the parts are made one behind the other and laid beside each other.
-/
namespace Go.Proofs.YtcenagpkfimkbaaGreatDoor
open Go Go.RowKit

/-- Parts made since a world. -/
structure Beg (ST : Nat → Prop) (w0 : World) (P : Nat → HP) (w : World) : Prop where
  ok : ∀ i, (P i).Ok
  below : Below w0.heap.size w0 w
  sep : ∃ S, Sep P w S ∧ ∀ k, S k → ST k ∨ w0.heap.size ≤ k
  rest : ∀ j, j = 0 ∨ 12 < j → P j = hemp
section
variable {ST : Nat → Prop} {w0 w w' : World} {P : Nat → HP}
theorem upd_ok {i : Nat} {p : HP} (h : ∀ i, (P i).Ok) (hp : p.Ok) : ∀ j, (upd P i p j).Ok := by
  intro j; unfold upd; split
  · exact hp
  · exact h j
theorem Beg.later (h : Beg ST w0 P w) (hb : Below w.heap.size w w') : Beg ST w0 P w' := by
  obtain ⟨S, hS, hs⟩ := h.sep
  exact ⟨h.ok, h.below.trans (hb.mono h.below.size), ⟨S, (Sep.ok h.ok).below hS hb, hs⟩, h.rest⟩
theorem Beg.add (h : Beg ST w0 P w) (i : Nat) (hi : 0 < i ∧ i ≤ 12) (he : P i = hemp) {p : HP} (hp : p.Ok) {S0 : Nat → Prop} (hpw : p w' S0) (hb : Below w.heap.size w w') (hs : ∀ k, S0 k → w.heap.size ≤ k) : Beg ST w0 (upd P i p) w' := by
  obtain ⟨S, hS, hs0⟩ := h.sep
  obtain ⟨S', h', hg⟩ := Sep.add h.ok hS i hi.1 he hpw hb hs
  exact ⟨upd_ok h.ok hp, h.below.trans (hb.mono h.below.size), ⟨S', h', fun k hk => (hg.s k hk).elim (hs0 k) (fun e => .inr (Nat.le_trans h.below.size e))⟩, fun j hj => by rw [upd_ne _ _ (by omega)]; exact h.rest j hj⟩
theorem Beg.drew (h : Beg ST w0 P w) (n : Nat) : Beg ST w0 P (w.drewN n) := h.later ⟨rfl, rfl, rfl, Nat.le_refl _, fun _ _ => rfl⟩
theorem Beg.drew1 (h : Beg ST w0 P w) : Beg ST w0 P w.drew := h.later ⟨rfl, rfl, rfl, Nat.le_refl _, fun _ _ => rfl⟩
theorem Beg.map (h : Beg ST w0 P w) (he : P 8 = hemp) : Beg ST w0 (upd P 8 (MapP w.heap.size (arMap []))) (w.alloc (.map #[] 0)) :=
  h.add 8 (by omega) he (MapP.ok _ _) (S0 := fun k => k = w.heap.size) ⟨MapAt.made w, fun _ => Iff.rfl⟩ ((Below.refl _ _).alloc (Nat.le_refl _) _) (fun k e => by omega)
theorem Beg.cell (h : Beg ST w0 P w) {a : Addr} {v : Value} (hc : w0.cell? a = some v) : w.cell? a = some v := (h.below.cell (cell_lt hc)).trans hc

theorem oNewB (h : Beg ST w0 P w) (he : P 3 = hemp) (n : Nat) (hn : n ≤ 1024) :
    Calls Tryz.prog 39 #[.int .i64 n] w fun e w' => ∃ ob om, e = .returned (.pointer (some ⟨ob, 0, none⟩)) ∧ Beg ST w0 (upd P 3 (OwnerP ob om n (fun _ => 0))) w' := by
  refine (oNew_any n w hn).mono ?_
  rintro e w' ⟨rfl, hb, ho⟩
  refine ⟨_, _, rfl, h.add 3 (by omega) he (OwnerP.ok _ _ _ _) (S0 := fun k => k = w.heap.size + 1 ∨ k = w.heap.size) ⟨[], ho, fun k => by simp [lk]⟩ hb (fun k e => by omega)⟩
theorem stNewB (h : Beg ST w0 P w) (he : P 4 = hemp) (n : Nat) (hn : n ≤ 16384) :
    Calls Tryz.prog 40 #[.int .i64 n] w fun e w' => ∃ sb rb rw, e = .returned (.pointer (some ⟨sb, 0, none⟩)) ∧ Beg ST w0 (upd P 4 (StartsP sb rb rw (List.replicate n false))) w' := by
  refine (sNew2_any n w hn).mono ?_
  rintro e w' ⟨sb, rb, rw', rfl, hb, ho, h1, h2, h3⟩
  exact ⟨_, _, _, rfl, h.add 4 (by omega) he (StartsP.ok _ _ _ _) (S0 := fun k => k = sb ∨ k = rb ∨ k = rw') ⟨ho, fun k => Iff.rfl⟩ hb (fun k e => by omega)⟩
theorem iNewB (h : Beg ST w0 P w) (he : P 6 = hemp) :
    Calls Tryz.prog 41 #[.int .i64 64] w fun e w' => ∃ bb bm, e = .returned (.pointer (some ⟨bb, 0, none⟩)) ∧ Beg ST w0 (upd P 6 (BookP bb bm [] 0 64)) w' := by
  refine (iNew_any 64 w (by omega)).mono ?_
  rintro e w' ⟨rfl, hb, ho⟩
  exact ⟨_, _, rfl, h.add 6 (by omega) he (BookP.ok _ _ _ _ _) (S0 := fun k => k = w.heap.size + 1 ∨ k = w.heap.size) ⟨ho, fun k => Iff.rfl⟩ hb (fun k e => by omega)⟩
theorem trNewB (h : Beg ST w0 P w) (he : P 7 = hemp) :
    Calls Tryz.prog 42 #[] w fun e w' => ∃ tb tm, e = .returned (.pointer (some ⟨tb, 0, none⟩)) ∧ Beg ST w0 (upd P 7 (OneMapP 191 tb tm [])) w' := by
  refine (trNew_any w).mono ?_
  rintro e w' ⟨rfl, hb, ho⟩
  exact ⟨_, _, rfl, h.add 7 (by omega) he (OneMapP.ok _ _ _ _) (S0 := fun k => k = w.heap.size + 1 ∨ k = w.heap.size) ⟨ho, fun k => Iff.rfl⟩ hb (fun k e => by omega)⟩
theorem taNewB (h : Beg ST w0 P w) (he : P 9 = hemp) :
    Calls Tryz.prog 43 #[] w fun e w' => ∃ tb tm, e = .returned (.pointer (some ⟨tb, 0, none⟩)) ∧ Beg ST w0 (upd P 9 (OneMapP 193 tb tm [])) w' := by
  refine (taNew_any w).mono ?_
  rintro e w' ⟨rfl, hb, ho⟩
  exact ⟨_, _, rfl, h.add 9 (by omega) he (OneMapP.ok _ _ _ _) (S0 := fun k => k = w.heap.size + 1 ∨ k = w.heap.size) ⟨ho, fun k => Iff.rfl⟩ hb (fun k e => by omega)⟩
theorem frNewB (h : Beg ST w0 P w) (he : P 11 = hemp) :
    Calls Tryz.prog 44 #[] w fun e w' => ∃ fb, e = .returned (.pointer (some ⟨fb, 0, none⟩)) ∧ Beg ST w0 (upd P 11 (FramesP fb [])) w' := by
  refine (sNew_any w).mono ?_
  rintro e w' ⟨rfl, hb, ho⟩
  exact ⟨_, rfl, h.add 11 (by omega) he (FramesP.ok _ _) (S0 := fun k => k = w.heap.size) ho hb (fun k e => by omega)⟩
theorem pNewB (h : Beg ST w0 P w) (he : P 2 = hemp) (n : Nat) (h1 : 1 ≤ n) (h2 : n ≤ 1024) :
    Calls Tryz.prog 36 #[.int .i64 n] w fun e w' => ∃ pb rb rw mb mw, e = .returned (.tuple #[.pointer (some ⟨pb, 0, none⟩), .int .i64 0]) ∧ Beg ST w0 (upd P 2 (PagesP pb rb rw mb mw (List.replicate n false) (List.replicate (16 * n) 0))) w' := by
  refine (pNew_any n w h1 h2).mono ?_
  rintro e w' ⟨pb, rb, rw', mb, mw, rfl, hb, ho, g1, g2, g3, g4, g5⟩
  exact ⟨_, _, _, _, _, rfl, h.add 2 (by omega) he (PagesP.ok _ _ _ _ _ _ _) (S0 := fun k => k = pb ∨ k = rb ∨ k = rw' ∨ k = mb ∨ k = mw) ⟨ho, fun k => Iff.rfl⟩ hb (fun k e => by omega)⟩
theorem gNewB (h : Beg ST w0 P w) (he : P 10 = hemp) (n : Nat) (hn : n ≤ 64) :
    Calls Tryz.prog 37 #[.int .i64 n] w fun e w' => ∃ gb gg, e = .returned (.tuple #[.pointer (some ⟨gb, 0, none⟩), .int .i64 0]) ∧ Beg ST w0 (upd P 10 (GlobP gb gg (List.replicate n 0))) w' := by
  refine (gNew_any n w hn).mono ?_
  rintro e w' ⟨rfl, hb, ho⟩
  exact ⟨_, _, rfl, h.add 10 (by omega) he (GlobP.ok _ _ _) (S0 := fun k => k = w.heap.size + 1 ∨ k = w.heap.size) ⟨ho, fun k => Iff.rfl⟩ hb (fun k e => by omega)⟩
end

/-- The heap of a configuration. -/
def newH (n g : Nat) (ds : List (List Int)) : HM :=
  { gs := List.replicate n false, ms := List.replicate (16 * n) 0, on := n, ow := fun _ => 0, st := List.replicate (n * 16) false, ds := ds, live := [], last := 0, par := [], ar := [], cnt := [], gl := List.replicate g 0, fr := [] }

theorem heapP_of {P : Nat → HP} {B : HB} {n g : Nat} {ds : List (List Int)} {O0 O1 : Obj}
    (h1 : P 1 = blockP B.hb (heapObj B ds.length)) (h2 : P 2 = PagesP B.pb B.rb B.rw B.mb B.mw (List.replicate n false) (List.replicate (16 * n) 0)) (h3 : P 3 = OwnerP B.ob B.om n (fun _ => 0)) (h4 : P 4 = StartsP B.sb B.srb B.srw (List.replicate (n * 16) false)) (h5 : P 5 = TypesP B.ta ds)
    (h6 : P 6 = BookP B.bb B.bm [] 0 64) (h7 : P 7 = OneMapP 191 B.tb B.tm []) (h8 : P 8 = MapP B.am (arMap [])) (h9 : P 9 = OneMapP 193 B.cb B.cm []) (h10 : P 10 = GlobP B.gb B.gg (List.replicate g 0)) (h11 : P 11 = FramesP B.fb []) (h12 : P 12 = TabsP O0 O1)
    (hr : ∀ j, j = 0 ∨ 12 < j → P j = hemp) : P = heapP B (newH n g ds) O0 O1 := by
  funext j
  have : j = 0 ∨ j = 1 ∨ j = 2 ∨ j = 3 ∨ j = 4 ∨ j = 5 ∨ j = 6 ∨ j = 7 ∨ j = 8 ∨ j = 9 ∨ j = 10 ∨ j = 11 ∨ j = 12 ∨ 12 < j := by omega
  rcases this with rfl | rfl | rfl | rfl | rfl | rfl | rfl | rfl | rfl | rfl | rfl | rfl | rfl | h
  · exact hr 0 (.inl rfl)
  · exact h1
  · exact h2
  · exact h3
  · exact h4
  · exact h5
  · exact h6
  · exact h7
  · exact h8
  · exact h9
  · exact h10
  · exact h11
  · exact h12
  · rw [hr j (.inr h)]
    unfold heapP
    rw [if_neg (by omega), if_neg (by omega), if_neg (by omega), if_neg (by omega), if_neg (by omega), if_neg (by omega), if_neg (by omega), if_neg (by omega), if_neg (by omega), if_neg (by omega), if_neg (by omega), if_neg (by omega)]
    split
    · rfl
    · rfl

/-- A configuration's types as they come, and the tables beside them. -/
theorem Beg.start {O0 O1 : Obj} {w : World} {ST : Nat → Prop} (h : TabsP O0 O1 w ST) : Beg ST w (upd (fun _ => hemp) 12 (TabsP O0 O1)) w := by
  have hlt := (TabsP.ok O0 O1).lt h
  refine ⟨upd_ok (fun _ => hemp_ok) (TabsP.ok _ _), Below.refl _ _, ⟨ST, ?_, fun k hk => .inl hk⟩, fun j hj => by rw [upd_ne _ _ (by omega)]⟩
  classical
  refine ⟨fun k => if ST k then 12 else 0, fun k => by by_cases hk : ST k <;> simp [hk], fun i hi => ?_⟩
  by_cases e : i = 12
  · subst e
    rw [upd_same]
    have : (fun k => (if ST k then 12 else 0) = 12) = ST := by funext k; by_cases hk : ST k <;> simp [hk]
    rw [this]; exact h
  · rw [upd_ne _ _ e]
    intro k
    by_cases hk : ST k <;> simp [hk] <;> omega
/-- What New answers. -/
def NewOut (n g : Nat) (ds : List (List Int)) (O0 O1 : Obj) (ST : Nat → Prop) (w : World) (e : Ending) (w' : World) : Prop :=
  ∃ B, e = .returned (.tuple #[.pointer (some ⟨B.hb, 0, none⟩), .int .i64 0]) ∧ Below w.heap.size w w' ∧ ∃ S', HeapSt B (newH n g ds) O0 O1 w' S' ∧ ∀ k, S' k → ST k ∨ w.heap.size ≤ k
theorem newOut_end {n g hs : Nat} {ds : List (List Int)} {O0 O1 : Obj} {ST : Nat → Prop} {w X wF : World} {P : Nat → HP} (hX : Below w.heap.size w X) (h : Beg ST X P wF) (hh : wF.heap.size = hs)
    {pb rb rw mb mw ob om sb srb srw bb bm tb tm am cb cm gb gg fb : Nat} {ta : Option Addr} {tc : Nat}
    (h1 : P 1 = hemp) (h2 : P 2 = PagesP pb rb rw mb mw (List.replicate n false) (List.replicate (16 * n) 0)) (h3 : P 3 = OwnerP ob om n (fun _ => 0)) (h4 : P 4 = StartsP sb srb srw (List.replicate (n * 16) false)) (h5 : P 5 = TypesP ta ds)
    (h6 : P 6 = BookP bb bm [] 0 64) (h7 : P 7 = OneMapP 191 tb tm []) (h8 : P 8 = MapP am (arMap [])) (h9 : P 9 = OneMapP 193 cb cm []) (h10 : P 10 = GlobP gb gg (List.replicate g 0)) (h11 : P 11 = FramesP fb []) (h12 : P 12 = TabsP O0 O1) :
    NewOut n g ds O0 O1 ST w (.returned (.tuple #[.pointer (some ⟨hs, 0, none⟩), .int .i64 0]))
      (wF.alloc (.cells #[.pointer (some ⟨pb, 0, none⟩), .pointer (some ⟨ob, 0, none⟩), .pointer (some ⟨sb, 0, none⟩), .slice ta ds.length tc, .pointer (some ⟨bb, 0, none⟩), .pointer (some ⟨tb, 0, none⟩), .map (some am), .pointer (some ⟨cb, 0, none⟩), .pointer (some ⟨gb, 0, none⟩), .pointer (some ⟨fb, 0, none⟩)] 117)) := by
  subst hh
  obtain ⟨B, hB⟩ : ∃ B : HB, B = ⟨wF.heap.size, pb, rb, rw, mb, mw, ob, om, sb, srb, srw, bb, bm, tb, tm, am, cb, cm, gb, gg, fb, ta, tc⟩ := ⟨_, rfl⟩
  have hb1 : Below wF.heap.size wF (wF.alloc (heapObj B ds.length)) := (Below.refl _ _).alloc (Nat.le_refl _) _
  have hF := h.add 1 (by omega) h1 (blockP.ok B.hb (heapObj B ds.length)) (S0 := fun k => k = B.hb) (w' := wF.alloc (heapObj B ds.length)) ⟨by rw [hB]; exact heap_alloc_eq _ _, fun _ => Iff.rfl⟩ hb1 (fun k e => by rw [e, hB]; exact Nat.le_refl _)
  have hP : upd P 1 (blockP B.hb (heapObj B ds.length)) = heapP B (newH n g ds) O0 O1 := by
    refine heapP_of (upd_same _ _ _) ?_ ?_ ?_ ?_ ?_ ?_ ?_ ?_ ?_ ?_ ?_ hF.rest
    all_goals (rw [upd_ne _ _ (by omega)]; subst hB; assumption)
  rw [hP] at hF
  obtain ⟨S', hS, hs⟩ := hF.sep
  refine ⟨B, by rw [hB], hX.trans (hF.below.mono hX.size) |> fun q => by subst hB; exact q, S', by subst hB; exact hS, fun k hk => (hs k hk).imp_right (fun e => Nat.le_trans hX.size e)⟩
end Go.Proofs.YtcenagpkfimkbaaGreatDoor
/-
  heap.New of a configuration that may be.
-/
namespace Go.Proofs.YtcenagpkfimkbaaGreatDoor
open Go Go.RowKit
attribute [local go_sem ↓] Go.wp_at_zero Go.wp_at_succ

theorem mayD_len {ds : List (List Int)} (h : listD ds = true) : ds.length ≤ 32 ∧ ∀ d ∈ ds, 1 ≤ d.length ∧ d.length ≤ 60 := by
  simp only [listD, Bool.and_eq_true, decide_eq_true_eq, List.all_eq_true] at h
  refine ⟨h.1, fun d hd => ?_⟩
  have := h.2 d hd
  simp only [mayD, Bool.and_eq_true, decide_eq_true_eq] at this
  exact this.1
/-- What is known of the rows of types that were copied. -/
def Rows5 (w0 : World) (ds : List (List Int)) (v : Value) (w : World) : Prop :=
  ∃ us : List Value, us.length = ds.length ∧ w.ownsRow w0.heap.size 76 1 v us.length us ∧ RowsOf w w0.heap.size us ds

set_option maxRecDepth 100000 in
set_option maxHeartbeats 4000000 in
theorem hNew_any (n g : Nat) (ty : Option Addr) (ds : List (List Int)) (tc : Nat) (O0 O1 : Obj) (ST : Nat → Prop) (w : World) (hT : TabsP O0 O1 w ST) (h1 : 1 ≤ n) (h2 : n ≤ 1024) (h3 : g ≤ 64) (hD : Descs w ty ds) (hl : listD ds = true) :
    Calls Tryz.prog 20 #[.agg #[.int .i64 n, .int .i64 g, .slice ty ds.length tc]] w (NewOut n g ds O0 O1 ST w) := by
  obtain ⟨X, hX⟩ : ∃ X, w.alloc (.cells #[.int .i64 n, .int .i64 g, .slice ty ds.length tc] 24) = X := ⟨_, rfl⟩
  have hbX : Below w.heap.size w X := by rw [← hX]; exact (Below.refl _ _).alloc (Nat.le_refl _) _
  have oX : X.heap[w.heap.size]? = some (.cells #[.int .i64 n, .int .i64 g, .slice ty ds.length tc] 24 (0, 0)) := by rw [← hX]; exact heap_alloc_eq _ _
  have hdl := mayD_len hl
  have HDL := Lib.hid (And.intro hdl hl)
  have k0 := heap_cell oX 0
  have k1 := heap_cell oX 1
  have k2 := heap_cell oX 2
  simp at k0 k1 k2
  have hTX := (TabsP.ok O0 O1).below hT hbX
  have B0 := Beg.start hTX
  have hP := pNewB B0 rfl n h1 h2
  have HB := Lib.hid (And.intro B0 (And.intro hbX (And.intro (hD.below hbX) hTX)))
  clear B0 hT hTX hbX oX hD hdl hl
  go_enter Tryz.func20, Tryz.ntmps20
  go_wp2_with fail
  try rw [hX]
  go_wp2_with fail
  refine hP.mono ?_
  rintro e w1 ⟨pb, rb, rw', mb, mw, rfl, hB1⟩
  have j0 := hB1.cell k0
  have j1 := hB1.cell k1
  have j2 := hB1.cell k2
  have hG := gNewB hB1 rfl g h3
  clear hP hB1
  go_wp2_with fail
  refine hG.mono ?_
  rintro e w2 ⟨gb, gg, rfl, hB2⟩
  have i0 := hB2.cell k0
  have i1 := hB2.cell k1
  have i2 := hB2.cell k2
  have hL := List_any ty ds tc w2 (hB2.sep.elim fun S hS => (Sep.get hS.1 12 (by omega)).elim fun S0 h => h.1.2.2.1) (HB.out.2.2.1.below hB2.below) (fun d hd => by have := HDL.out.1.2 d hd; omega) (by have := HDL.out.1.1; omega)
  rw [HDL.out.2] at hL
  have HB2 := Lib.hid hB2
  clear hG hB2 j0 j1 j2
  go_wp2_with fail
  refine hL.mono ?_
  rintro e w3 ⟨rfl, hb3⟩
  have HB3 := Lib.hid (HB2.out.later hb3)
  have d0 := HB3.out.cell k0
  have d2 := HB3.out.cell k2
  clear hL hb3 i0 i1 i2 k1
  obtain ⟨i0', hi, hz0, hz1, hz2⟩ := info_parts info_int
  obtain ⟨j0', hji, hjz0, hjz1, hjz2⟩ := info_parts info_desc
  have hdl := HDL.out.1.1
  go_wp2
  go_loopw [7, 9, 35] (fun v _ i wr => ∃ j : Nat, j ≤ ds.length ∧ i = .int .i64 j ∧ Rows5 w3 (ds.take j) v wr ∧ Below w3.heap.size w3 wr) (fun _ _ i _ => ds.length - (intOf i).toNat)
  case atStart => exact ⟨0, Nat.zero_le _, rfl, ⟨[], rfl, World.ownsRow_nil _ _ _ _, by simp [RowsOf]⟩, Below.refl _ _⟩
  case round =>
    obtain ⟨j, hj, rfl, ⟨us, hul, hown, hrows⟩, hB⟩ := hrel
    by_cases hlt : j < ds.length
    · obtain ⟨b, off, fa, fc, d, rfl, hx2, hc, hr, hnil⟩ := (HB.out.2.2.1.below (HB3.out.below.trans (hB.mono HB3.out.below.size))).at_ j hlt
      have hdd := HDL.out.1.2 d (List.mem_of_getElem? hx2)
      have hmap : ds.take (j + 1) = ds.take j ++ [d] := by rw [List.take_add_one, hx2]; rfl
      cases fa with
      | none => obtain ⟨rfl, _⟩ := hnil rfl; simp at hdd
      | some fad =>
        have HUL := Lib.hid hul
        have hba : Below wr.heap.size wr (wr.alloc (.cells #[.slice (some fad) d.length fc] 76)) := (Below.refl _ _).alloc (Nat.le_refl _) _
        have HO := Lib.hid (And.intro ((Moved.of_below hba (fun _ => False)).owns hown (fun _ _ e => e)) (And.intro (hrows.below hba) (And.intro (hB.trans (hba.mono hB.size)) (And.intro (hr.below hba) hmap))))
        have hcs := Lib.hid (cells_of_reads (hr.below hba))
        obtain ⟨W0, hW0⟩ : ∃ W0, W0 = wr.alloc (.cells #[.slice (some fad) d.length fc] 76) := ⟨_, rfl⟩
        have hc0 : W0.cell? ⟨wr.heap.size, 0, none⟩ = some (.slice (some fad) d.length fc) := by rw [hW0, heap_cell (heap_alloc_eq _ _)]; rfl
        have HW0 := Lib.hid hW0
        clear hown hrows hx2 hr hba hmap hul hB hnil
        rw [← hW0] at HO hcs
        clear hW0
        go_wp2_with (at_builtin; refine wpList_append_own _ rfl _ _ 58 rfl (wr.heap.size + 1) 3 i0' (.int .i64 0) 1 8 Tryz.underlying58 hi hz0 hz1 hz2 rfl (by decide) (.slice none 0 0) 0 [] (by rfl) (World.ownsRow_nil _ _ _ _) fad d.length fc (d.map (Value.int .i64)) (by rfl) (by simp) (HW0.out ▸ hcs.out) (ints_oneCell _ _) (by unfold maxLen; omega) (by omega) (by simp) ?_)
        intro v' w5 hown' hgrow _
        rw [← HW0.out] at hgrow
        rw [show wr.heap.size + 1 = W0.heap.size by rw [HW0.out]; simp] at hown'
        obtain ⟨u, hu⟩ : ∃ u, u = v' := ⟨_, rfl⟩
        have hB5 : Below W0.heap.size W0 w5 := (Below.refl _ _).grown hgrow (Nat.le_refl _) (fun k e => by simp [Value.ownBlock] at e)
        have hrow : w5.ownsRow W0.heap.size 3 1 v' d.length (d.map (Value.int .i64)) := by simpa using hown'
        obtain ⟨af, cf, rfl, _, _, _⟩ := owns_slice hrow
        have hownO := (Moved.of_below hB5 (fun _ => False)).owns HO.out.1 (fun _ _ e => e)
        have hrowsO := HO.out.2.1.below hB5
        have hBw := HO.out.2.2.1.trans (hB5.mono HO.out.2.2.1.size)
        have hrow2 := owns_le2 hrow HO.out.2.2.1.size
        have hul2 : us.length ≤ 32 := by have := HUL.out; simp at this; omega
        have HX := Lib.hid (And.intro hrow2 hrowsO)
        clear hown' hgrow hrow hrow2 hrowsO hu hB5 hcs
        go_wp2_with (at_builtin; refine wpList_append_own _ rfl _ _ 22 rfl w3.heap.size 76 j0' (.agg #[.slice none 0 0]) 1 24 Tryz.underlying22 hji hjz0 hjz1 hjz2 rfl (by decide) _ _ _ (by rfl) (hownO.alloc _) ⟨w5.heap.size, 0, none⟩ 1 1 [.slice af d.length cf] (by rfl) rfl (new_cell _ _ _) (one_ok _ rfl) (by unfold maxLen; omega) (by omega) (by have := hBw.size; simp; omega) ?_)
        intro v' w1 hown' hgrow _
        have hba : Below w5.heap.size w5 (w5.alloc (.cells #[.slice af d.length cf] 76)) := (Below.refl _ _).alloc (Nat.le_refl _) _
        have hB1 := (hBw.alloc hBw.size (.cells #[.slice af d.length cf] 76)).grown hgrow (by have := hBw.size; simp; omega) (fun k e => (hownO.lt k e).1)
        have hr1 := ((HX.out.2.below hba).grown (hownO.alloc _) (by decide) hgrow).snoc (((Moved.of_below hba (fun _ => False)).owns HX.out.1 (fun _ _ e => e)).kept hgrow (owns_ne ((Moved.of_below hba (fun _ => False)).owns HX.out.1 (fun _ _ e => e)) (hownO.alloc _) (by decide)))
        rw [← HO.out.2.2.2.2] at hr1
        have ho2 : w1.ownsRow w3.heap.size 76 1 v' (us ++ [Value.slice af d.length cf]).length (us ++ [Value.slice af d.length cf]) := by
          simpa using hown'
        have HR1 : Hid (Rows5 w3 (ds.take (j + 1)) v' w1) := Lib.hid ⟨_, by rw [List.length_append, HUL.out]; simp; omega, ho2, hr1⟩
        clear hr1 ho2 hown' hgrow hba hownO hBw
        go_wp2
        go_roundw
        case rel => exact ⟨j + 1, by omega, by go_num, HR1.out, hB1⟩
        case measure => simp [intOf]; omega
    · obtain rfl : j = ds.length := by omega
      rw [List.take_length] at hrows hul
      obtain ⟨ta, tcc, rfl, hTy⟩ := typesP_of_rows hown hrows
      have B5 := HB3.out.add 5 (by omega) rfl (TypesP.ok _ _) hTy hB (fun k hk => hk.1)
      have e0 := B5.cell k0
      have HB5 := Lib.hid B5
      clear hown hrows hul hTy hB B5 d0 d2 k2 hdl hi hz0 hz1 hz2 hji hjz0 hjz1 hjz2
      have hmm := @run_makeMap Tryz.prog
      have y1 : IntKind.i64.wrap ((n : Int) * 16) = ((n * 16 : Nat) : Int) := by rw [IntKind.wrap_i64]; omega
      have h4 : n * 16 ≤ 16384 := by omega
      go_wp2
      go_region_held3 (fun w' => w'.cell? ⟨w.heap.size, 0, none⟩ = some (.int .i64 n)) (first | assumption | exact (cell_alloc_old _ (by assumption)) | go_keep) (first | (refine (oNewB (by first | exact HB5.out | exact HB5.out.map (by rfl) | exact HB5.out.drew _ | exact HB5.out.drew1 | exact (HB5.out.drew _).map (by rfl) | exact (HB5.out.drew1).map (by rfl) | exact (HB5.out.map (by rfl)).drew _ | exact (HB5.out.map (by rfl)).drew1) (by rfl) n h2).mono ?_; rintro e wO ⟨ob, om, rfl, hBn⟩; have e0 := hBn.cell k0; have HB5 := Lib.hid hBn; clear hBn) | (refine (stNewB (by first | exact HB5.out | exact HB5.out.map (by rfl) | exact HB5.out.drew _ | exact HB5.out.drew1 | exact (HB5.out.drew _).map (by rfl) | exact (HB5.out.drew1).map (by rfl) | exact (HB5.out.map (by rfl)).drew _ | exact (HB5.out.map (by rfl)).drew1) (by rfl) (n * 16) h4).mono ?_; rintro e wS ⟨sb, srb, srw, rfl, hBn⟩; have e0 := hBn.cell k0; have HB5 := Lib.hid hBn; clear hBn) | (refine (iNewB (by first | exact HB5.out | exact HB5.out.map (by rfl) | exact HB5.out.drew _ | exact HB5.out.drew1 | exact (HB5.out.drew _).map (by rfl) | exact (HB5.out.drew1).map (by rfl) | exact (HB5.out.map (by rfl)).drew _ | exact (HB5.out.map (by rfl)).drew1) (by rfl)).mono ?_; rintro e wI ⟨bb, bm, rfl, hBn⟩; have e0 := hBn.cell k0; have HB5 := Lib.hid hBn; clear hBn) | (refine (trNewB (by first | exact HB5.out | exact HB5.out.map (by rfl) | exact HB5.out.drew _ | exact HB5.out.drew1 | exact (HB5.out.drew _).map (by rfl) | exact (HB5.out.drew1).map (by rfl) | exact (HB5.out.map (by rfl)).drew _ | exact (HB5.out.map (by rfl)).drew1) (by rfl)).mono ?_; rintro e wT ⟨tb, tm, rfl, hBn⟩; have e0 := hBn.cell k0; have HB5 := Lib.hid hBn; clear hBn) | (refine (taNewB (by first | exact HB5.out | exact HB5.out.map (by rfl) | exact HB5.out.drew _ | exact HB5.out.drew1 | exact (HB5.out.drew _).map (by rfl) | exact (HB5.out.drew1).map (by rfl) | exact (HB5.out.map (by rfl)).drew _ | exact (HB5.out.map (by rfl)).drew1) (by rfl)).mono ?_; rintro e wC ⟨cb, cm, rfl, hBn⟩; have e0 := hBn.cell k0; have HB5 := Lib.hid hBn; clear hBn) | (refine (frNewB (by first | exact HB5.out | exact HB5.out.map (by rfl) | exact HB5.out.drew _ | exact HB5.out.drew1 | exact (HB5.out.drew _).map (by rfl) | exact (HB5.out.drew1).map (by rfl) | exact (HB5.out.map (by rfl)).drew _ | exact (HB5.out.map (by rfl)).drew1) (by rfl)).mono ?_; rintro e wF ⟨fb, rfl, hBn⟩; have e0 := hBn.cell k0; have HB5 := Lib.hid hBn; clear hBn))
      all_goals
        go_wp2
        go_ret2
        first | exact newOut_end HB.out.2.1 HB5.out rfl (by rfl) (by rfl) (by rfl) (by rfl) (by rfl) (by rfl) (by rfl) (by rfl) (by rfl) (by rfl) (by rfl) (by rfl) | exact newOut_end HB.out.2.1 (HB5.out.map (by rfl)) (by simp) (by rfl) (by rfl) (by rfl) (by rfl) (by rfl) (by rfl) (by rfl) (by rfl) (by rfl) (by rfl) (by rfl) (by rfl)
end Go.Proofs.YtcenagpkfimkbaaGreatDoor
/-
  run.New.
-/
namespace Go.Proofs.YtcenagpkfimkbaaGreatDoor
open Go Go.RowKit

/-- The lengths of types. -/
def lens (ds : List (List Int)) : List Int := ds.map (fun d => (d.length : Int))

/-- A machine and its heap. -/
structure MSt (B : HB) (H : HM) (O0 O1 : Obj) (mb : Nat) (fa : Option Addr) (fc : Nat) (w : World) (S : Nat → Prop) : Prop where
  h : HeapSt B H O0 O1 w S
  m : MachAt w mb B.hb fa fc (lens H.ds)
  nm : ¬ S mb
  nf : ∀ q, fa = some q → ¬ S q.block
  fl : ∀ q, fa = some q → q.block < w.heap.size

theorem below_of_moved {a b c : World} {S : Nat → Prop} {n : Nat} (h : Below n a b) (k : Moved S b c) (hn : n ≤ b.heap.size) (hs : ∀ q, S q → n ≤ q) : Below n a c :=
  ⟨k.os.trans h.os, k.tape.trans h.tape, k.output.trans h.output, Nat.le_trans h.size k.size, fun q hq => (k.block q (by omega) (fun e => by have := hs q e; omega)).trans (h.block q hq)⟩
theorem take_lens {ds : List (List Int)} {j : Nat} {d : List Int} (h : ds[j]? = some d) : (lens ds).take (j + 1) = (lens ds).take j ++ [(d.length : Int)] := by
  unfold lens
  rw [List.take_add_one, List.getElem?_map, h]; rfl

/-- What run.New answers. -/
def RNewOut (n g : Nat) (ds : List (List Int)) (O0 O1 : Obj) (ST : Nat → Prop) (w : World) (e : Ending) (w' : World) : Prop :=
  ∃ B mb fa fc S', e = .returned (.tuple #[.pointer (some ⟨mb, 0, none⟩), .int .i64 0]) ∧ Below w.heap.size w w' ∧ MSt B (newH n g ds) O0 O1 mb fa fc w' S' ∧ (∀ k, S' k → ST k ∨ w.heap.size ≤ k) ∧ w.heap.size ≤ mb ∧ ∀ q, fa = some q → w.heap.size ≤ q.block ∧ q.block < w'.heap.size

set_option maxRecDepth 100000 in
set_option maxHeartbeats 4000000 in
theorem rNew_any (n g : Nat) (ty : Option Addr) (ds : List (List Int)) (tc : Nat) (O0 O1 : Obj) (ST : Nat → Prop) (w : World) (hT : TabsP O0 O1 w ST) (h1 : 1 ≤ n) (h2 : n ≤ 1024) (h3 : g ≤ 64) (hD : Descs w ty ds) (hl : listD ds = true) :
    Calls Tryz.prog 8 #[.agg #[.int .i64 n, .int .i64 g, .slice ty ds.length tc]] w (RNewOut n g ds O0 O1 ST w) := by
  obtain ⟨X, hX⟩ : ∃ X, w.alloc (.cells #[.int .i64 n, .int .i64 g, .slice ty ds.length tc] 24) = X := ⟨_, rfl⟩
  have hbX : Below w.heap.size w X := by rw [← hX]; exact (Below.refl _ _).alloc (Nat.le_refl _) _
  have oX : X.heap[w.heap.size]? = some (.cells #[.int .i64 n, .int .i64 g, .slice ty ds.length tc] 24 (0, 0)) := by rw [← hX]; exact heap_alloc_eq _ _
  have hdl := mayD_len hl
  have k0 := heap_cell oX 0
  have k1 := heap_cell oX 1
  have k2 := heap_cell oX 2
  simp at k0 k1 k2
  have hN := hNew_any n g ty ds tc O0 O1 ST X ((TabsP.ok O0 O1).below hT hbX) h1 h2 h3 (hD.below hbX) hl
  have HX := Lib.hid (And.intro hbX (And.intro (hD.below hbX) (And.intro oX hdl)))
  clear hbX oX hT hD hl hdl
  go_enter Tryz.func8, Tryz.ntmps8
  go_wp2_with fail
  try rw [hX]
  go_wp2_with fail
  refine hN.mono ?_
  rintro e w1 ⟨B, rfl, hb1, S', hS, hs⟩
  obtain ⟨W0, hW0⟩ : ∃ W0, w1.alloc (.cells #[.pointer (some ⟨B.hb, 0, none⟩), .slice none 0 0] 74) = W0 := ⟨_, rfl⟩
  have hbw : Below w1.heap.size w1 W0 := by rw [← hW0]; exact (Below.refl _ _).alloc (Nat.le_refl _) _
  have oM : W0.heap[w1.heap.size]? = some (.cells #[.pointer (some ⟨B.hb, 0, none⟩), .slice none 0 0] 74 (0, 0)) := by rw [← hW0]; exact heap_alloc_eq _ _
  have hsz : W0.heap.size = w1.heap.size + 1 := by rw [← hW0]; simp
  have hXw : X.heap.size ≤ w1.heap.size := hb1.size
  have HS := Lib.hid (And.intro ((HeapSt.ok B _ O0 O1).below hS hbw) (And.intro hs (And.intro (hb1.trans (hbw.mono hb1.size)) (And.intro hsz (And.intro hXw ((HeapSt.ok B _ O0 O1).lt hS))))))
  have i2 := ((hb1.trans (hbw.mono hb1.size)).cell (p := ⟨w.heap.size, 2, none⟩) (cell_lt k2)).trans k2
  have HOM := Lib.hid oM
  have hlt : w.heap.size < w1.heap.size := Nat.lt_of_lt_of_le (cell_lt k2) hXw
  clear hN hS hs hb1 hbw oM hsz k0 k1 hXw
  obtain ⟨i0, hi, hz0, hz1, hz2⟩ := info_parts info_int
  go_wp2_with fail
  try rw [hW0]
  go_wp2
  go_loopw [8, 23] (fun _ i wr => ∃ j : Nat, j ≤ ds.length ∧ i = .int .i64 j ∧ ∃ (a : Option Addr) (c : Nat), wr.heap[w1.heap.size]? = some (.cells #[.pointer (some ⟨B.hb, 0, none⟩), .slice a j c] 74 (0, 0)) ∧ wr.ownsRow W0.heap.size 3 1 (.slice a j c) j (((lens ds).take j).map (Value.int .i64)) ∧ Moved (fun k => k = w1.heap.size) W0 wr) (fun _ i _ => ds.length - (intOf i).toNat)
  case atStart => exact ⟨0, Nat.zero_le _, rfl, none, 0, HOM.out, World.ownsRow_nil _ _ _ _, Moved.refl _ _⟩
  case round =>
    obtain ⟨j, hj, rfl, a, c, hmb, hown, hM⟩ := hrel
    by_cases hlt2 : j < ds.length
    · have hBr : Below X.heap.size X wr := below_of_moved HS.out.2.2.1 hM (by have := HS.out.2.2.2.1; have := HS.out.2.2.2.2.1; omega) (fun q e => by rw [e]; exact HS.out.2.2.2.2.1)
      have hDr := HX.out.2.1.below hBr
      obtain ⟨b, off, fa, fc, d, rfl, hx2, hc, hr, _⟩ := hDr.at_ j hlt2
      obtain ⟨W1, hW1⟩ : ∃ W1, wr.alloc (.cells #[.slice fa d.length fc] 76) = W1 := ⟨_, rfl⟩
      have hbn : Below wr.heap.size wr W1 := by rw [← hW1]; exact (Below.refl _ _).alloc (Nat.le_refl _) _
      have hc0 : W1.cell? ⟨wr.heap.size, 0, none⟩ = some (.slice fa d.length fc) := by rw [← hW1, heap_cell (heap_alloc_eq _ _)]; rfl
      have hmb1 := heap_below hbn hmb (heap_lt hmb)
      have m1 := heap_cell hmb1 1
      have f1 := heap_free hmb1 1
      simp at m1
      have hown1 := (Moved.of_below hbn (fun _ => False)).owns hown (fun _ _ e => e)
      have hdd := HX.out.2.2.2.2 d (List.mem_of_getElem? hx2)
      have hds := HX.out.2.2.2.1
      have htk := take_lens hx2
      have HT := Lib.hid (And.intro htk (And.intro hM hbn))
      have hsr : W0.heap.size ≤ wr.heap.size := hM.size
      have hszW : W1.heap.size = wr.heap.size + 1 := by rw [← hW1]; simp
      have HMB := Lib.hid (And.intro hmb1 hown1)
      have HSZ := Lib.hid (And.intro hszW (And.intro hsr (And.intro hdd hds)))
      clear hown hmb hM hbn hDr hx2 hr htk hown1 hmb1 hszW hdd hds
      go_wp2_with fail
      try rw [hW1]
      clear hc hW1
      have hbo : ¬ (Value.slice a j c).ownBlock = some w1.heap.size := fun e => by have := (HMB.out.2.lt _ e).1; have := HS.out.2.2.2.1; omega
      have HBO := Lib.hid hbo
      have hne1 : ¬ w1.heap.size = W1.heap.size := by have := cell_lt m1; simp at this; omega
      have hne2 : ¬ wr.heap.size = W1.heap.size := by have := cell_lt hc0; simp at this; omega
      have m1b := cell_alloc_old (.cells #[.int .i64 d.length] 3) m1
      have c0b := cell_alloc_old (.cells #[.int .i64 d.length] 3) hc0
      have hj9 : j ≤ 32 := by have := HSZ.out.2.2.2; omega
      clear hbo
      go_region_law ((refine step_append_lies _ (by rfl) _ _ _ (by rfl) W0.heap.size 3 i0 _ 1 8 Tryz.underlying58 hi hz0 hz1 hz2 rfl (by omega) (.slice a j c) j (((lens ds).take j).map (Value.int .i64)) (by rfl) ((HMB.out.2.alloc _).drew) ⟨W1.heap.size, 0, none⟩ 1 1 [.int .i64 d.length] (by rfl) (by rfl) (World.news_of_block (cs := #[.int .i64 d.length]) (t := 3) (fr := (0, 0)) (heap_alloc_new W1 _)) (by simp [Value.oneCell']) (by omega) (by unfold maxLen; omega) (by omega) (by have := HSZ.out.1; have := HSZ.out.2.1; simp; omega) (W1.heap.size + 1) (by simp) ?_; intro g2 cap' w2 hown1 hgrow hat hlt; have O2 := (Moved.of_grown hgrow (S := fun k => (Value.slice a j c).ownBlock = some k) (fun k h => h)).heap (heap_alloc_lt HMB.out.1 _) (fun e => HBO.out e); have q1 := heap_cell O2 1; have q2 := heap_free O2 1; simp at q1))
      all_goals
        have hm1 : Moved (fun k => (Value.slice a j c).ownBlock = some k) W1 w2 := ((Moved.alloc (fun k => (Value.slice a j c).ownBlock = some k) W1 _).trans (Moved.drew (fun k => (Value.slice a j c).ownBlock = some k) _) (fun _ h => .inl h)).trans (Moved.of_grown hgrow (S := fun k => (Value.slice a j c).ownBlock = some k) (fun k h => h)) (fun _ h => .inl h)
        generalize hW : World.setCell _ _ _ = w3
        have O3 : w3.heap[w1.heap.size]? = some (.cells (#[.pointer (some ⟨B.hb, 0, none⟩), .slice a j c].setIfInBounds 1 (.slice (some ⟨g2, 0, none⟩) (j + 1) cap')) 74 (0, 0)) := by
          rw [← hW]; exact heap_set O2 1 _
        have hM3 : Moved (fun k => k = w1.heap.size) W0 w3 := by
          refine (((HT.out.2.1.trans (Moved.of_below HT.out.2.2 (fun _ => False)) (fun _ e => e.elim)).trans hm1 (fun q e => .inr (HMB.out.2.lt _ e).1)).trans (T := fun k => k = w1.heap.size) ?_ (fun _ e => .inl e))
          rw [← hW]; exact Moved.of_set w2 w1.heap.size 1 _ rfl
        have ho3 : w3.ownsRow W0.heap.size 3 1 (.slice (some ⟨g2, 0, none⟩) (j + 1) cap') (j + 1) (((lens ds).take (j + 1)).map (Value.int .i64)) := by
          rw [HT.out.1, List.map_append, ← hW]
          exact (Moved.of_set (S := fun k => k = w1.heap.size) w2 w1.heap.size 1 _ rfl).owns hown1 (fun k hk e => by have := (hown1.lt k hk).1; have := HS.out.2.2.2.1; omega)
        have HR := Lib.hid (And.intro O3 (And.intro ho3 hM3))
        clear hm1 O3 hM3 ho3 hown1 hgrow hlt O2 hat q1 q2 m1b c0b m1 f1 hc0 hne1 hne2
        go_wp2
        go_roundw
        case rel => exact ⟨j + 1, by omega, by go_num, some ⟨g2, 0, none⟩, cap', HR.out⟩
        case measure => simp [intOf]; omega
    · obtain rfl : j = ds.length := by omega
      have hlen : (lens ds).length = ds.length := by simp [lens]
      rw [List.take_of_length_le (by rw [hlen]; exact Nat.le_refl _)] at hown
      obtain ⟨hHS, hs, hbX0, hsz, hXw, hSlt⟩ := HS.out
      have hHS2 := (HeapSt.ok B _ O0 O1).moved hHS hM (fun k hk e => by have := hSlt k hk; omega)
      have hbr : Below w.heap.size w wr := HX.out.1.trans ((below_of_moved hbX0 hM (by omega) (fun q e => by rw [e]; exact hXw)).mono HX.out.1.size)
      have hfa : ∀ q, a = some q → W0.heap.size ≤ q.block ∧ q.block < wr.heap.size := fun q e => by subst e; exact hown.lt q.block rfl
      have hrd : Reads .i64 wr a (lens ds) := by
        obtain ⟨a2, c2, e, h2, _⟩ := owns_reads (xs := lens ds) (by rw [hlen]; exact hown)
        simp only [Value.slice.injEq] at e
        rw [e.1]; exact h2
      have HF : Hid (RNewOut n g ds O0 O1 ST w (.returned (.tuple #[.pointer (some ⟨w1.heap.size, 0, none⟩), .int .i64 0])) wr) := by
        have hxs := HX.out.1.size
        refine Lib.hid ⟨B, w1.heap.size, a, c, S', rfl, hbr, ⟨hHS2, ⟨by rw [show (lens (newH n g ds).ds).length = ds.length from hlen]; exact hmb, hrd⟩, fun e => by have := hSlt _ e; omega, fun q e h => by have := hSlt _ h; have := (hfa q e).1; omega, fun q e => (hfa q e).2⟩, fun k hk => (hs k hk).imp_right (fun e => Nat.le_trans hxs e), by omega, fun q e => by have := hfa q e; omega⟩
      clear hHS2 hbr hfa hrd hHS hs hbX0 hsz hSlt hlen hM hmb hown
      go_wp2
      go_ret2
      exact HF.out
end Go.Proofs.YtcenagpkfimkbaaGreatDoor
