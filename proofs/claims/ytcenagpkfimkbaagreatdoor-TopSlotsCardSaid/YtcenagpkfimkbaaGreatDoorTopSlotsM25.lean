/-
  Contracts of functions of the program, laid together.
-/
import Derived.Test.YtcenagpkfimkbaaGreatDoorTopSlotsM2
import Derived.Test.YtcenagpkfimkbaaGreatDoorTopSlotsM24
import Derived.Deep.RegionHeld3
import Derived.Deep.DrawnRows
namespace Go.Proofs.YtcenagpkfimkbaaGreatDoor
open Go Go.RowKit
attribute [local go_sem ↓] Go.wp_at_zero Go.wp_at_succ

abbrev opV (k a b c : Int) : Value := .agg #[.int .i64 k, .int .u64 a, .int .u64 b, .int .u64 c]

set_option maxRecDepth 100000 in
set_option maxHeartbeats 2000000 in
theorem some1_any (f g mb : Nat) (hv : Addr) (k a b c : Int) (w : World) (Post : World → Int → Int → World → Prop) (hcf : ∀ (args : Array Value) (w : World), Sem.run Tryz.prog (callFunc f args) w = .ok (.enter f args) w)
    (hg : w.cell? ⟨g, 0, none⟩ = some (fnV f)) (hm : w.cell? ⟨mb, 0, none⟩ = some (.pointer (some hv)))
    (SS : Nat → Prop) (hs1 : ¬ SS g) (hs2 : ¬ SS mb) (hs3 : ¬ SS w.heap.size)
    (h : ∀ w1, Below w.heap.size w w1 → Calls Tryz.prog f #[.pointer (some hv), opV k a b c] w1 fun e w' => ∃ v er, e = .returned (.tuple #[.int .u64 v, .int .i64 er]) ∧ Post w1 v er w' ∧ Moved SS w1 w') :
    Calls Tryz.prog 100 #[.pointer (some ⟨mb, 0, none⟩), opV k a b c, .pointer (some ⟨g, 0, none⟩)] w fun e w' => ∃ v er, e = .returned (.tuple #[.int .u64 v, .int .i64 er]) ∧ ∃ w1, Below w.heap.size w w1 ∧ Post w1 v er w' ∧ Moved SS w1 w' := by
  obtain ⟨X, hX⟩ : ∃ X, w.alloc (.cells #[.int .i64 k, .int .u64 a, .int .u64 b, .int .u64 c] 36) = X := ⟨_, rfl⟩
  have hbX : Below w.heap.size w X := by rw [← hX]; exact (Below.refl _ _).alloc (Nat.le_refl _) _
  have oX : X.heap[w.heap.size]? = some (.cells #[.int .i64 k, .int .u64 a, .int .u64 b, .int .u64 c] 36 (0, 0)) := by rw [← hX]; exact heap_alloc_eq _ _
  have k0 := heap_cell oX 0
  have k1 := heap_cell oX 1
  have k2 := heap_cell oX 2
  have k3 := heap_cell oX 3
  simp at k0 k1 k2 k3
  have g0 := (hbX.cell (cell_lt hg)).trans hg
  have m0 := (hbX.cell (cell_lt hm)).trans hm
  have hd : ∀ n : Nat, Below w.heap.size w (X.drewN n) := fun n => hbX.trans ⟨rfl, rfl, rfl, by simp, fun _ _ => rfl⟩
  have H := fun n => (h (X.drewN n) (hd n)).mono (R' := fun e w' => ∃ v er, e = .returned (.tuple #[.int .u64 v, .int .i64 er]) ∧ (∃ w1, Below w.heap.size w w1 ∧ Post w1 v er w' ∧ Moved SS w1 w') ∧ Moved SS (X.drewN n) w') (fun e w' ⟨v, er, he, hP, hM⟩ => ⟨v, er, he, ⟨X.drewN n, hd n, hP, hM⟩, hM⟩)
  have HN := Lib.hid (And.intro hs1 (And.intro hs2 hs3))
  have HM := fun (n : Nat) (w' : World) (hM : Moved SS (X.drewN n) w') => (⟨hM.cell (p := ⟨g, 0, none⟩) (v := fnV f) g0 HN.out.1, hM.cell (p := ⟨mb, 0, none⟩) m0 HN.out.2.1, hM.cell (p := ⟨w.heap.size, 0, none⟩) k0 HN.out.2.2, hM.cell (p := ⟨w.heap.size, 1, none⟩) k1 HN.out.2.2, hM.cell (p := ⟨w.heap.size, 2, none⟩) k2 HN.out.2.2, hM.cell (p := ⟨w.heap.size, 3, none⟩) k3 HN.out.2.2⟩ : w'.cell? ⟨g, 0, none⟩ = some (fnV f) ∧ w'.cell? ⟨mb, 0, none⟩ = some (.pointer (some hv)) ∧ w'.cell? ⟨w.heap.size, 0, none⟩ = some (.int .i64 k) ∧ w'.cell? ⟨w.heap.size, 1, none⟩ = some (.int .u64 a) ∧ w'.cell? ⟨w.heap.size, 2, none⟩ = some (.int .u64 b) ∧ w'.cell? ⟨w.heap.size, 3, none⟩ = some (.int .u64 c))
  have HM := Lib.hid HM
  clear h oX hbX hg hm hd hs1 hs2 hs3
  go_enter Tryz.func100, Tryz.ntmps100
  go_wp2_with fail
  try rw [hX]
  go_wp2_with fail
  go_region_held3 (fun w' => w'.cell? ⟨g, 0, none⟩ = some (fnV f) ∧ w'.cell? ⟨mb, 0, none⟩ = some (.pointer (some hv)) ∧ w'.cell? ⟨w.heap.size, 0, none⟩ = some (.int .i64 k) ∧ w'.cell? ⟨w.heap.size, 1, none⟩ = some (.int .u64 a) ∧ w'.cell? ⟨w.heap.size, 2, none⟩ = some (.int .u64 b) ∧ w'.cell? ⟨w.heap.size, 3, none⟩ = some (.int .u64 c)) (first | exact hK.out | go_keep) ((refine (H _).mono ?_; rintro e w2 ⟨v, er, rfl, hP, hM⟩; have hK := Lib.hid (HM.out _ _ hM); have HP := Lib.hid hP; clear hP hM))
  all_goals
    go_wp2
    go_ret2
    exact ⟨_, _, rfl, HP.out⟩
set_option maxRecDepth 100000 in
set_option maxHeartbeats 2000000 in
theorem none1_any (f g mb : Nat) (hv : Addr) (k a b c : Int) (w : World) (Post : World → Int → Int → World → Prop) (hcf : ∀ (args : Array Value) (w : World), Sem.run Tryz.prog (callFunc f args) w = .ok (.enter f args) w)
    (hg : w.cell? ⟨g, 0, none⟩ = some (fnV f)) (hm : w.cell? ⟨mb, 0, none⟩ = some (.pointer (some hv)))
    (SS : Nat → Prop) (hs1 : ¬ SS g) (hs2 : ¬ SS mb) (hs3 : ¬ SS w.heap.size)
    (h : ∀ w1, Below w.heap.size w w1 → Calls Tryz.prog f #[.pointer (some hv), opV k a b c] w1 fun e w' => ∃ er, e = .returned (.int .i64 er) ∧ Post w1 0 er w' ∧ Moved SS w1 w') :
    Calls Tryz.prog 105 #[.pointer (some ⟨mb, 0, none⟩), opV k a b c, .pointer (some ⟨g, 0, none⟩)] w fun e w' => ∃ v er, e = .returned (.tuple #[.int .u64 v, .int .i64 er]) ∧ ∃ w1, Below w.heap.size w w1 ∧ Post w1 v er w' ∧ Moved SS w1 w' := by
  obtain ⟨X, hX⟩ : ∃ X, w.alloc (.cells #[.int .i64 k, .int .u64 a, .int .u64 b, .int .u64 c] 36) = X := ⟨_, rfl⟩
  have hbX : Below w.heap.size w X := by rw [← hX]; exact (Below.refl _ _).alloc (Nat.le_refl _) _
  have oX : X.heap[w.heap.size]? = some (.cells #[.int .i64 k, .int .u64 a, .int .u64 b, .int .u64 c] 36 (0, 0)) := by rw [← hX]; exact heap_alloc_eq _ _
  have k0 := heap_cell oX 0
  have k1 := heap_cell oX 1
  have k2 := heap_cell oX 2
  have k3 := heap_cell oX 3
  simp at k0 k1 k2 k3
  have g0 := (hbX.cell (cell_lt hg)).trans hg
  have m0 := (hbX.cell (cell_lt hm)).trans hm
  have hd : ∀ n : Nat, Below w.heap.size w (X.drewN n) := fun n => hbX.trans ⟨rfl, rfl, rfl, by simp, fun _ _ => rfl⟩
  have H := fun n => (h (X.drewN n) (hd n)).mono (R' := fun e w' => ∃ er, e = .returned (.int .i64 er) ∧ (∃ w1, Below w.heap.size w w1 ∧ Post w1 0 er w' ∧ Moved SS w1 w') ∧ Moved SS (X.drewN n) w') (fun e w' ⟨er, he, hP, hM⟩ => ⟨er, he, ⟨X.drewN n, hd n, hP, hM⟩, hM⟩)
  have HN := Lib.hid (And.intro hs1 (And.intro hs2 hs3))
  have HM := fun (n : Nat) (w' : World) (hM : Moved SS (X.drewN n) w') => (⟨hM.cell (p := ⟨g, 0, none⟩) (v := fnV f) g0 HN.out.1, hM.cell (p := ⟨mb, 0, none⟩) m0 HN.out.2.1, hM.cell (p := ⟨w.heap.size, 0, none⟩) k0 HN.out.2.2, hM.cell (p := ⟨w.heap.size, 1, none⟩) k1 HN.out.2.2, hM.cell (p := ⟨w.heap.size, 2, none⟩) k2 HN.out.2.2, hM.cell (p := ⟨w.heap.size, 3, none⟩) k3 HN.out.2.2⟩ : w'.cell? ⟨g, 0, none⟩ = some (fnV f) ∧ w'.cell? ⟨mb, 0, none⟩ = some (.pointer (some hv)) ∧ w'.cell? ⟨w.heap.size, 0, none⟩ = some (.int .i64 k) ∧ w'.cell? ⟨w.heap.size, 1, none⟩ = some (.int .u64 a) ∧ w'.cell? ⟨w.heap.size, 2, none⟩ = some (.int .u64 b) ∧ w'.cell? ⟨w.heap.size, 3, none⟩ = some (.int .u64 c))
  have HM := Lib.hid HM
  clear h oX hbX hg hm hd hs1 hs2 hs3
  go_enter Tryz.func105, Tryz.ntmps105
  go_wp2_with fail
  try rw [hX]
  go_wp2_with fail
  go_region_held3 (fun w' => w'.cell? ⟨g, 0, none⟩ = some (fnV f) ∧ w'.cell? ⟨mb, 0, none⟩ = some (.pointer (some hv)) ∧ w'.cell? ⟨w.heap.size, 0, none⟩ = some (.int .i64 k) ∧ w'.cell? ⟨w.heap.size, 1, none⟩ = some (.int .u64 a) ∧ w'.cell? ⟨w.heap.size, 2, none⟩ = some (.int .u64 b) ∧ w'.cell? ⟨w.heap.size, 3, none⟩ = some (.int .u64 c)) (first | exact hK.out | go_keep) ((refine (H _).mono ?_; rintro e w2 ⟨er, rfl, hP, hM⟩; have hK := Lib.hid (HM.out _ _ hM); have HP := Lib.hid hP; clear hP hM))
  all_goals
    go_wp2
    go_ret2
    exact ⟨_, _, rfl, HP.out⟩
end Go.Proofs.YtcenagpkfimkbaaGreatDoor
namespace Go.Proofs.YtcenagpkfimkbaaGreatDoor
open Go Go.RowKit
attribute [local go_sem ↓] Go.wp_at_zero Go.wp_at_succ

abbrev resV (v er : Int) : Value := .agg #[.int .i64 er, .int .u64 (if er = 0 then v else 0)]
structure DoK (w : World) (k a b c : Int) (w1 : World) : Prop where
  c0 : w1.cell? ⟨w.heap.size, 0, none⟩ = some (.int .i64 k)
  c1 : w1.cell? ⟨w.heap.size, 1, none⟩ = some (.int .u64 a)
  c2 : w1.cell? ⟨w.heap.size, 2, none⟩ = some (.int .u64 b)
  c3 : w1.cell? ⟨w.heap.size, 3, none⟩ = some (.int .u64 c)
  r : w1.heap[w.heap.size + 1]? = some (.cells #[.int .i64 0, .int .u64 0] 39 (0, 0))
theorem DoK.moved {w w1 w2 : World} {k a b c : Int} {S : Nat → Prop} (h : DoK w k a b c w1) (hm : Moved S w1 w2) (hs : ∀ k, S k → k < w.heap.size) : DoK w k a b c w2 :=
  ⟨hm.cell h.c0 (fun e => by have := hs _ e; simp at this), hm.cell h.c1 (fun e => by have := hs _ e; simp at this), hm.cell h.c2 (fun e => by have := hs _ e; simp at this), hm.cell h.c3 (fun e => by have := hs _ e; simp at this), hm.heap h.r (fun e => by have := hs _ e; omega)⟩
theorem DoK.sz {w w1 : World} {k a b c : Int} (h : DoK w k a b c w1) : w.heap.size + 1 < w1.heap.size := heap_lt h.r
def DoP (w : World) (k a b c : Int) (SS : Nat → Prop) (Post : World → Int → Int → World → Prop) (v er : Int) (w2 : World) : Prop :=
  ∃ w1, Below w.heap.size w w1 ∧ w.heap.size + 1 < w1.heap.size ∧ Post w1 v er w2 ∧ Moved SS w1 w2 ∧ DoK w k a b c w2
theorem DoP.dok {w : World} {k a b c : Int} {SS : Nat → Prop} {Post : World → Int → Int → World → Prop} {v er : Int} {w2 : World} (h : DoP w k a b c SS Post v er w2) : DoK w k a b c w2 := by
  obtain ⟨_, _, _, _, _, h⟩ := h; exact h

set_option maxRecDepth 100000 in
set_option maxHeartbeats 4000000 in
theorem do1_any (mb : Nat) (hv : Addr) (a b c : Int) (w : World) (Post : World → Int → Int → World → Prop) (SS : Nat → Prop) (hs2 : ¬ SS mb) (hs3 : ∀ k, SS k → k < w.heap.size)
    (hm : w.cell? ⟨mb, 0, none⟩ = some (.pointer (some hv)))
    (h : ∀ w1, Below w.heap.size w w1 → Calls Tryz.prog 57 #[.pointer (some hv), opV 1 a b c] w1 fun e w' => ∃ v er, e = .returned (.tuple #[.int .u64 v, .int .i64 er]) ∧ Post w1 v er w' ∧ Moved SS w1 w') :
    Calls Tryz.prog 11 #[.pointer (some ⟨mb, 0, none⟩), opV 1 a b c] w fun e w' => ∃ v er, e = .returned (resV v er) ∧ ∃ w1 w2, Below w.heap.size w w1 ∧ w.heap.size + 1 < w1.heap.size ∧ Post w1 v er w2 ∧ Moved SS w1 w2 ∧ Moved (fun q => q = w.heap.size + 1) w2 w' := by
  obtain ⟨X, hX⟩ : ∃ X, (w.alloc (.cells #[.int .i64 1, .int .u64 a, .int .u64 b, .int .u64 c] 36)).alloc (.cells #[.int .i64 0, .int .u64 0] 39) = X := ⟨_, rfl⟩
  have hbX : Below w.heap.size w X := by rw [← hX]; exact ((Below.refl _ _).alloc (Nat.le_refl _) _).alloc (by simp) _
  have hsz : X.heap.size = w.heap.size + 2 := by rw [← hX]; simp
  have oX : X.heap[w.heap.size]? = some (.cells #[.int .i64 1, .int .u64 a, .int .u64 b, .int .u64 c] 36 (0, 0)) := by rw [← hX]; exact heap_alloc_lt (heap_alloc_eq _ _) _
  have oR : X.heap[w.heap.size + 1]? = some (.cells #[.int .i64 0, .int .u64 0] 39 (0, 0)) := by rw [← hX]; simpa using heap_alloc_eq (w.alloc (.cells #[.int .i64 1, .int .u64 a, .int .u64 b, .int .u64 c] 36)) (.cells #[.int .i64 0, .int .u64 0] 39)
  have k0 := heap_cell oX 0
  have k1 := heap_cell oX 1
  have k2 := heap_cell oX 2
  have k3 := heap_cell oX 3
  simp at k0 k1 k2 k3
  have HX := Lib.hid (And.intro hbX (And.intro hsz (And.intro oX oR)))
  have HH := Lib.hid h
  have HS := Lib.hid (And.intro hs2 hs3)
  clear h hbX hsz oX oR hs2 hs3
  go_enter Tryz.func11, Tryz.ntmps11
  go_wp2_with fail
  try rw [hX]
  go_wp2_with fail
  have hix : ∀ (b1 b3 b6 b7 b8 b9 b10 b11 b12 b13 b14 b15 : Nat) (w : World), (Instr.index 94 (.agg #[.nilFunc, clV 100 b1, fnV 59, clV 105 b3, fnV 63, fnV 64, clV 105 b6, clV 100 b7, clV 105 b8, clV 100 b9, clV 105 b10, clV 105 b11, clV 105 b12, clV 100 b13, clV 100 b14, clV 100 b15]) (.int .i64 1)).run Tryz.prog w = .ok (.agg #[clV 100 b1]) w := fun _ _ _ _ _ _ _ _ _ _ _ _ w => by kernel_rfl
  have hfl : ∀ (g : Nat) (w : World), (Instr.field 93 (.agg #[clV 100 g]) 0).run Tryz.prog w = .ok (clV 100 g) w := fun g w => by kernel_rfl
  have HA := fun n => (actions_any (X.drewN n)).mono (R' := fun e w1 => ∃ b1 b3 b6 b7 b8 b9 b10 b11 b12 b13 b14 b15 : Nat, e = .returned (.agg #[.nilFunc, clV 100 b1, fnV 59, clV 105 b3, fnV 63, fnV 64, clV 105 b6, clV 100 b7, clV 105 b8, clV 100 b9, clV 105 b10, clV 105 b11, clV 105 b12, clV 100 b13, clV 100 b14, clV 100 b15]) ∧ Below w.heap.size w w1 ∧ DoK w 1 a b c w1 ∧ w1.cell? ⟨b1, 0, none⟩ = some (fnV 57) ∧ w.heap.size < b1) (fun e w1 ⟨b1, b3, b6, b7, b8, b9, b10, b11, b12, b13, b14, b15, he, hb, ⟨g1, l1⟩, ⟨g3, l3⟩, ⟨g6, l6⟩, ⟨g7, l7⟩, ⟨g8, l8⟩, ⟨g9, l9⟩, ⟨g10, l10⟩, ⟨g11, l11⟩, ⟨g12, l12⟩, ⟨g13, l13⟩, ⟨g14, l14⟩, ⟨g15, l15⟩⟩ => ⟨b1, b3, b6, b7, b8, b9, b10, b11, b12, b13, b14, b15, he, HX.out.1.trans ((show Below X.heap.size X w1 from ⟨hb.os, hb.tape, hb.output, hb.size, hb.block⟩).mono HX.out.1.size), (⟨k0, k1, k2, k3, HX.out.2.2.2⟩ : DoK w 1 a b c X).moved (Moved.of_below (show Below X.heap.size X w1 from ⟨hb.os, hb.tape, hb.output, hb.size, hb.block⟩) (fun _ => False)) (fun _ e => e.elim), g1, by have := HX.out.2.1; simp at l1; omega⟩)
  have HCL : ∀ (w1 : World) (g : Nat), Below w.heap.size w w1 → DoK w 1 a b c w1 → w1.cell? ⟨g, 0, none⟩ = some (fnV 57) ∧ w.heap.size < g → Calls Tryz.prog 100 #[.pointer (some ⟨mb, 0, none⟩), opV 1 a b c, .pointer (some ⟨g, 0, none⟩)] w1 fun e w2 => ∃ v er, e = .returned (.tuple #[.int .u64 v, .int .i64 er]) ∧ DoP w 1 a b c SS Post v er w2 := by
    intro w1 g hb hk ⟨hg, hl⟩
    refine (some1_any 57 g mb hv 1 a b c w1 Post (fun args w => rfl) hg ((hb.cell (cell_lt hm)).trans hm) SS (fun e => by have := HS.out.2 _ e; omega) HS.out.1 (fun e => by have := HS.out.2 _ e; have := hk.sz; omega) (fun w2 hb2 => HH.out w2 (hb.trans (hb2.mono hb.size)))).mono ?_
    rintro e w2 ⟨v, er, rfl, w3, hb3, hP, hM⟩
    exact ⟨v, er, rfl, w3, hb.trans (hb3.mono hb.size), by have := hk.sz; have := hb3.size; omega, hP, hM, (hk.moved (Moved.of_below hb3 (fun _ => False)) (fun _ e => e.elim)).moved hM HS.out.2⟩
  have HCL := Lib.hid HCL
  have HA := Lib.hid HA
  have HA0 := HA.out
  clear HA HH
  go_region_held3 (fun w' => w'.cell? ⟨w.heap.size, 0, none⟩ = some (.int .i64 1) ∧ w'.cell? ⟨w.heap.size, 1, none⟩ = some (.int .u64 a) ∧ w'.cell? ⟨w.heap.size, 2, none⟩ = some (.int .u64 b) ∧ w'.cell? ⟨w.heap.size, 3, none⟩ = some (.int .u64 c)) (first | exact ⟨HK.out.2.c0, HK.out.2.c1, HK.out.2.c2, HK.out.2.c3⟩ | exact ⟨HP.out.2.c0, HP.out.2.c1, HP.out.2.c2, HP.out.2.c3⟩ | go_keep) (first | (go_at_call 29; refine (HA0 _).mono ?_; rintro e w1 ⟨b1, b3, b6, b7, b8, b9, b10, b11, b12, b13, b14, b15, rfl, hb1, hk1, hg1, hl1⟩; have HK := Lib.hid (And.intro hb1 hk1); clear hb1 hk1) | (go_at_call 100; refine (HCL.out _ _ HK.out.1 HK.out.2 ⟨hg1, hl1⟩).mono ?_; rintro e w2 ⟨v, er, rfl, hP⟩; have HP := Lib.hid (And.intro hP hP.dok); clear hP))
  all_goals
    have hr0 := heap_cell HP.out.2.r 0
    have hr1 := heap_cell HP.out.2.r 1
    have hf0 := heap_free HP.out.2.r 0
    have hf1 := heap_free HP.out.2.r 1
    simp at hr0 hr1
    have fin : ∀ x : Int, Moved (fun q => q = w.heap.size + 1) w2 ((w2.setCell ⟨w.heap.size + 1, 0, none⟩ (.int .i64 er)).setCell ⟨w.heap.size + 1, 1, none⟩ (.int .u64 x)) := fun x => Moved.of_grown (grown_trans (grown_set _ _ _ _) (grown_set _ _ _ _)) (fun k e => by cases e; rfl)
    obtain ⟨w3, p1, p2, p3, p4, _⟩ := HP.out.1
    by_cases he : er = 0
    · have he2 : (er != 0) = false := by simp [he]
      have HE := Lib.hid he
      clear he
      go_wp2
      exact bodyPost_ret (v := .agg #[.int .i64 er, .int .u64 v]) (by simp [results, Tryz.results11, go_sem, hr0, hr1]) rfl ⟨v, er, by rw [resV, if_pos HE.out], w3, w2, p1, p2, p3, p4, fin _⟩
    · have he2 : (er != 0) = true := by simp [he]
      have HE := Lib.hid he
      clear he
      go_wp2
      exact bodyPost_ret (v := .agg #[.int .i64 er, .int .u64 0]) (by simp [results, Tryz.results11, go_sem, hr0, hr1]) rfl ⟨v, er, by rw [resV, if_neg HE.out], w3, w2, p1, p2, p3, p4, fin _⟩

set_option maxRecDepth 100000 in
set_option maxHeartbeats 4000000 in
theorem do2_any (mb : Nat) (a b c : Int) (w : World) (Post : World → Int → Int → World → Prop) (SS : Nat → Prop) (hs2 : ¬ SS mb) (hs3 : ∀ k, SS k → k < w.heap.size)
    (h : ∀ w1, Below w.heap.size w w1 → Calls Tryz.prog 59 #[.pointer (some ⟨mb, 0, none⟩), opV 2 a b c] w1 fun e w' => ∃ v er, e = .returned (.tuple #[.int .u64 v, .int .i64 er]) ∧ Post w1 v er w' ∧ Moved SS w1 w') :
    Calls Tryz.prog 11 #[.pointer (some ⟨mb, 0, none⟩), opV 2 a b c] w fun e w' => ∃ v er, e = .returned (resV v er) ∧ ∃ w1 w2, Below w.heap.size w w1 ∧ w.heap.size + 1 < w1.heap.size ∧ Post w1 v er w2 ∧ Moved SS w1 w2 ∧ Moved (fun q => q = w.heap.size + 1) w2 w' := by
  obtain ⟨X, hX⟩ : ∃ X, (w.alloc (.cells #[.int .i64 2, .int .u64 a, .int .u64 b, .int .u64 c] 36)).alloc (.cells #[.int .i64 0, .int .u64 0] 39) = X := ⟨_, rfl⟩
  have hbX : Below w.heap.size w X := by rw [← hX]; exact ((Below.refl _ _).alloc (Nat.le_refl _) _).alloc (by simp) _
  have hsz : X.heap.size = w.heap.size + 2 := by rw [← hX]; simp
  have oX : X.heap[w.heap.size]? = some (.cells #[.int .i64 2, .int .u64 a, .int .u64 b, .int .u64 c] 36 (0, 0)) := by rw [← hX]; exact heap_alloc_lt (heap_alloc_eq _ _) _
  have oR : X.heap[w.heap.size + 1]? = some (.cells #[.int .i64 0, .int .u64 0] 39 (0, 0)) := by rw [← hX]; simpa using heap_alloc_eq (w.alloc (.cells #[.int .i64 2, .int .u64 a, .int .u64 b, .int .u64 c] 36)) (.cells #[.int .i64 0, .int .u64 0] 39)
  have k0 := heap_cell oX 0
  have k1 := heap_cell oX 1
  have k2 := heap_cell oX 2
  have k3 := heap_cell oX 3
  simp at k0 k1 k2 k3
  have HX := Lib.hid (And.intro hbX (And.intro hsz (And.intro oX oR)))
  have HH := Lib.hid h
  have HS := Lib.hid (And.intro hs2 hs3)
  clear h hbX hsz oX oR hs2 hs3
  go_enter Tryz.func11, Tryz.ntmps11
  go_wp2_with fail
  try rw [hX]
  go_wp2_with fail
  have hix : ∀ (b1 b3 b6 b7 b8 b9 b10 b11 b12 b13 b14 b15 : Nat) (w : World), (Instr.index 94 (.agg #[.nilFunc, clV 100 b1, fnV 59, clV 105 b3, fnV 63, fnV 64, clV 105 b6, clV 100 b7, clV 105 b8, clV 100 b9, clV 105 b10, clV 105 b11, clV 105 b12, clV 100 b13, clV 100 b14, clV 100 b15]) (.int .i64 2)).run Tryz.prog w = .ok (.agg #[fnV 59]) w := fun _ _ _ _ _ _ _ _ _ _ _ _ w => by kernel_rfl
  have hfl : ∀ (w : World), (Instr.field 93 (.agg #[fnV 59]) 0).run Tryz.prog w = .ok (fnV 59) w := fun w => by kernel_rfl
  have HA := fun n => (actions_any (X.drewN n)).mono (R' := fun e w1 => ∃ b1 b3 b6 b7 b8 b9 b10 b11 b12 b13 b14 b15 : Nat, e = .returned (.agg #[.nilFunc, clV 100 b1, fnV 59, clV 105 b3, fnV 63, fnV 64, clV 105 b6, clV 100 b7, clV 105 b8, clV 100 b9, clV 105 b10, clV 105 b11, clV 105 b12, clV 100 b13, clV 100 b14, clV 100 b15]) ∧ Below w.heap.size w w1 ∧ DoK w 2 a b c w1) (fun e w1 ⟨b1, b3, b6, b7, b8, b9, b10, b11, b12, b13, b14, b15, he, hb, ⟨g1, l1⟩, ⟨g3, l3⟩, ⟨g6, l6⟩, ⟨g7, l7⟩, ⟨g8, l8⟩, ⟨g9, l9⟩, ⟨g10, l10⟩, ⟨g11, l11⟩, ⟨g12, l12⟩, ⟨g13, l13⟩, ⟨g14, l14⟩, ⟨g15, l15⟩⟩ => ⟨b1, b3, b6, b7, b8, b9, b10, b11, b12, b13, b14, b15, he, HX.out.1.trans ((show Below X.heap.size X w1 from ⟨hb.os, hb.tape, hb.output, hb.size, hb.block⟩).mono HX.out.1.size), (⟨k0, k1, k2, k3, HX.out.2.2.2⟩ : DoK w 2 a b c X).moved (Moved.of_below (show Below X.heap.size X w1 from ⟨hb.os, hb.tape, hb.output, hb.size, hb.block⟩) (fun _ => False)) (fun _ e => e.elim)⟩)
  have HCL : ∀ (w1 : World) (g : Nat), Below w.heap.size w w1 → DoK w 2 a b c w1 → True → Calls Tryz.prog 59 #[.pointer (some ⟨mb, 0, none⟩), opV 2 a b c] w1 fun e w2 => ∃ v er, e = .returned (.tuple #[.int .u64 v, .int .i64 er]) ∧ DoP w 2 a b c SS Post v er w2 := by
    intro w1 g hb hk _
    refine (HH.out w1 hb).mono ?_
    rintro e w2 ⟨v, er, rfl, hP, hM⟩
    exact ⟨v, er, rfl, w1, hb, hk.sz, hP, hM, hk.moved hM HS.out.2⟩
  have HCL := Lib.hid HCL
  have HA := Lib.hid HA
  have HA0 := HA.out
  clear HA HH
  go_region_held3 (fun w' => w'.cell? ⟨w.heap.size, 0, none⟩ = some (.int .i64 2) ∧ w'.cell? ⟨w.heap.size, 1, none⟩ = some (.int .u64 a) ∧ w'.cell? ⟨w.heap.size, 2, none⟩ = some (.int .u64 b) ∧ w'.cell? ⟨w.heap.size, 3, none⟩ = some (.int .u64 c)) (first | exact ⟨HK.out.2.c0, HK.out.2.c1, HK.out.2.c2, HK.out.2.c3⟩ | exact ⟨HP.out.2.c0, HP.out.2.c1, HP.out.2.c2, HP.out.2.c3⟩ | go_keep) (first | (go_at_call 29; refine (HA0 _).mono ?_; rintro e w1 ⟨b1, b3, b6, b7, b8, b9, b10, b11, b12, b13, b14, b15, rfl, hb1, hk1⟩; have HK := Lib.hid (And.intro hb1 hk1); clear hb1 hk1) | (go_at_call 59; refine (HCL.out _ 0 HK.out.1 HK.out.2 trivial).mono ?_; rintro e w2 ⟨v, er, rfl, hP⟩; have HP := Lib.hid (And.intro hP hP.dok); clear hP))
  all_goals
    have hr0 := heap_cell HP.out.2.r 0
    have hr1 := heap_cell HP.out.2.r 1
    have hf0 := heap_free HP.out.2.r 0
    have hf1 := heap_free HP.out.2.r 1
    simp at hr0 hr1
    have fin : ∀ x : Int, Moved (fun q => q = w.heap.size + 1) w2 ((w2.setCell ⟨w.heap.size + 1, 0, none⟩ (.int .i64 er)).setCell ⟨w.heap.size + 1, 1, none⟩ (.int .u64 x)) := fun x => Moved.of_grown (grown_trans (grown_set _ _ _ _) (grown_set _ _ _ _)) (fun k e => by cases e; rfl)
    obtain ⟨w3, p1, p2, p3, p4, _⟩ := HP.out.1
    by_cases he : er = 0
    · have he2 : (er != 0) = false := by simp [he]
      have HE := Lib.hid he
      clear he
      go_wp2
      exact bodyPost_ret (v := .agg #[.int .i64 er, .int .u64 v]) (by simp [results, Tryz.results11, go_sem, hr0, hr1]) rfl ⟨v, er, by rw [resV, if_pos HE.out], w3, w2, p1, p2, p3, p4, fin _⟩
    · have he2 : (er != 0) = true := by simp [he]
      have HE := Lib.hid he
      clear he
      go_wp2
      exact bodyPost_ret (v := .agg #[.int .i64 er, .int .u64 0]) (by simp [results, Tryz.results11, go_sem, hr0, hr1]) rfl ⟨v, er, by rw [resV, if_neg HE.out], w3, w2, p1, p2, p3, p4, fin _⟩

set_option maxRecDepth 100000 in
set_option maxHeartbeats 4000000 in
theorem do3_any (mb : Nat) (hv : Addr) (a b c : Int) (w : World) (Post : World → Int → Int → World → Prop) (SS : Nat → Prop) (hs2 : ¬ SS mb) (hs3 : ∀ k, SS k → k < w.heap.size)
    (hm : w.cell? ⟨mb, 0, none⟩ = some (.pointer (some hv)))
    (h : ∀ w1, Below w.heap.size w w1 → Calls Tryz.prog 61 #[.pointer (some hv), opV 3 a b c] w1 fun e w' => ∃ er, e = .returned (.int .i64 er) ∧ Post w1 0 er w' ∧ Moved SS w1 w') :
    Calls Tryz.prog 11 #[.pointer (some ⟨mb, 0, none⟩), opV 3 a b c] w fun e w' => ∃ v er, e = .returned (resV v er) ∧ ∃ w1 w2, Below w.heap.size w w1 ∧ w.heap.size + 1 < w1.heap.size ∧ Post w1 v er w2 ∧ Moved SS w1 w2 ∧ Moved (fun q => q = w.heap.size + 1) w2 w' := by
  obtain ⟨X, hX⟩ : ∃ X, (w.alloc (.cells #[.int .i64 3, .int .u64 a, .int .u64 b, .int .u64 c] 36)).alloc (.cells #[.int .i64 0, .int .u64 0] 39) = X := ⟨_, rfl⟩
  have hbX : Below w.heap.size w X := by rw [← hX]; exact ((Below.refl _ _).alloc (Nat.le_refl _) _).alloc (by simp) _
  have hsz : X.heap.size = w.heap.size + 2 := by rw [← hX]; simp
  have oX : X.heap[w.heap.size]? = some (.cells #[.int .i64 3, .int .u64 a, .int .u64 b, .int .u64 c] 36 (0, 0)) := by rw [← hX]; exact heap_alloc_lt (heap_alloc_eq _ _) _
  have oR : X.heap[w.heap.size + 1]? = some (.cells #[.int .i64 0, .int .u64 0] 39 (0, 0)) := by rw [← hX]; simpa using heap_alloc_eq (w.alloc (.cells #[.int .i64 3, .int .u64 a, .int .u64 b, .int .u64 c] 36)) (.cells #[.int .i64 0, .int .u64 0] 39)
  have k0 := heap_cell oX 0
  have k1 := heap_cell oX 1
  have k2 := heap_cell oX 2
  have k3 := heap_cell oX 3
  simp at k0 k1 k2 k3
  have HX := Lib.hid (And.intro hbX (And.intro hsz (And.intro oX oR)))
  have HH := Lib.hid h
  have HS := Lib.hid (And.intro hs2 hs3)
  clear h hbX hsz oX oR hs2 hs3
  go_enter Tryz.func11, Tryz.ntmps11
  go_wp2_with fail
  try rw [hX]
  go_wp2_with fail
  have hix : ∀ (b1 b3 b6 b7 b8 b9 b10 b11 b12 b13 b14 b15 : Nat) (w : World), (Instr.index 94 (.agg #[.nilFunc, clV 100 b1, fnV 59, clV 105 b3, fnV 63, fnV 64, clV 105 b6, clV 100 b7, clV 105 b8, clV 100 b9, clV 105 b10, clV 105 b11, clV 105 b12, clV 100 b13, clV 100 b14, clV 100 b15]) (.int .i64 3)).run Tryz.prog w = .ok (.agg #[clV 105 b3]) w := fun _ _ _ _ _ _ _ _ _ _ _ _ w => by kernel_rfl
  have hfl : ∀ (g : Nat) (w : World), (Instr.field 93 (.agg #[clV 105 g]) 0).run Tryz.prog w = .ok (clV 105 g) w := fun g w => by kernel_rfl
  have HA := fun n => (actions_any (X.drewN n)).mono (R' := fun e w1 => ∃ b1 b3 b6 b7 b8 b9 b10 b11 b12 b13 b14 b15 : Nat, e = .returned (.agg #[.nilFunc, clV 100 b1, fnV 59, clV 105 b3, fnV 63, fnV 64, clV 105 b6, clV 100 b7, clV 105 b8, clV 100 b9, clV 105 b10, clV 105 b11, clV 105 b12, clV 100 b13, clV 100 b14, clV 100 b15]) ∧ Below w.heap.size w w1 ∧ DoK w 3 a b c w1 ∧ w1.cell? ⟨b3, 0, none⟩ = some (fnV 61) ∧ w.heap.size < b3) (fun e w1 ⟨b1, b3, b6, b7, b8, b9, b10, b11, b12, b13, b14, b15, he, hb, ⟨g1, l1⟩, ⟨g3, l3⟩, ⟨g6, l6⟩, ⟨g7, l7⟩, ⟨g8, l8⟩, ⟨g9, l9⟩, ⟨g10, l10⟩, ⟨g11, l11⟩, ⟨g12, l12⟩, ⟨g13, l13⟩, ⟨g14, l14⟩, ⟨g15, l15⟩⟩ => ⟨b1, b3, b6, b7, b8, b9, b10, b11, b12, b13, b14, b15, he, HX.out.1.trans ((show Below X.heap.size X w1 from ⟨hb.os, hb.tape, hb.output, hb.size, hb.block⟩).mono HX.out.1.size), (⟨k0, k1, k2, k3, HX.out.2.2.2⟩ : DoK w 3 a b c X).moved (Moved.of_below (show Below X.heap.size X w1 from ⟨hb.os, hb.tape, hb.output, hb.size, hb.block⟩) (fun _ => False)) (fun _ e => e.elim), g3, by have := HX.out.2.1; simp at l3; omega⟩)
  have HCL : ∀ (w1 : World) (g : Nat), Below w.heap.size w w1 → DoK w 3 a b c w1 → w1.cell? ⟨g, 0, none⟩ = some (fnV 61) ∧ w.heap.size < g → Calls Tryz.prog 105 #[.pointer (some ⟨mb, 0, none⟩), opV 3 a b c, .pointer (some ⟨g, 0, none⟩)] w1 fun e w2 => ∃ v er, e = .returned (.tuple #[.int .u64 v, .int .i64 er]) ∧ DoP w 3 a b c SS Post v er w2 := by
    intro w1 g hb hk ⟨hg, hl⟩
    refine (none1_any 61 g mb hv 3 a b c w1 Post (fun args w => rfl) hg ((hb.cell (cell_lt hm)).trans hm) SS (fun e => by have := HS.out.2 _ e; omega) HS.out.1 (fun e => by have := HS.out.2 _ e; have := hk.sz; omega) (fun w2 hb2 => HH.out w2 (hb.trans (hb2.mono hb.size)))).mono ?_
    rintro e w2 ⟨v, er, rfl, w3, hb3, hP, hM⟩
    exact ⟨v, er, rfl, w3, hb.trans (hb3.mono hb.size), by have := hk.sz; have := hb3.size; omega, hP, hM, (hk.moved (Moved.of_below hb3 (fun _ => False)) (fun _ e => e.elim)).moved hM HS.out.2⟩
  have HCL := Lib.hid HCL
  have HA := Lib.hid HA
  have HA0 := HA.out
  clear HA HH
  go_region_held3 (fun w' => w'.cell? ⟨w.heap.size, 0, none⟩ = some (.int .i64 3) ∧ w'.cell? ⟨w.heap.size, 1, none⟩ = some (.int .u64 a) ∧ w'.cell? ⟨w.heap.size, 2, none⟩ = some (.int .u64 b) ∧ w'.cell? ⟨w.heap.size, 3, none⟩ = some (.int .u64 c)) (first | exact ⟨HK.out.2.c0, HK.out.2.c1, HK.out.2.c2, HK.out.2.c3⟩ | exact ⟨HP.out.2.c0, HP.out.2.c1, HP.out.2.c2, HP.out.2.c3⟩ | go_keep) (first | (go_at_call 29; refine (HA0 _).mono ?_; rintro e w1 ⟨b1, b3, b6, b7, b8, b9, b10, b11, b12, b13, b14, b15, rfl, hb1, hk1, hg1, hl1⟩; have HK := Lib.hid (And.intro hb1 hk1); clear hb1 hk1) | (go_at_call 105; refine (HCL.out _ _ HK.out.1 HK.out.2 ⟨hg1, hl1⟩).mono ?_; rintro e w2 ⟨v, er, rfl, hP⟩; have HP := Lib.hid (And.intro hP hP.dok); clear hP))
  all_goals
    have hr0 := heap_cell HP.out.2.r 0
    have hr1 := heap_cell HP.out.2.r 1
    have hf0 := heap_free HP.out.2.r 0
    have hf1 := heap_free HP.out.2.r 1
    simp at hr0 hr1
    have fin : ∀ x : Int, Moved (fun q => q = w.heap.size + 1) w2 ((w2.setCell ⟨w.heap.size + 1, 0, none⟩ (.int .i64 er)).setCell ⟨w.heap.size + 1, 1, none⟩ (.int .u64 x)) := fun x => Moved.of_grown (grown_trans (grown_set _ _ _ _) (grown_set _ _ _ _)) (fun k e => by cases e; rfl)
    obtain ⟨w3, p1, p2, p3, p4, _⟩ := HP.out.1
    by_cases he : er = 0
    · have he2 : (er != 0) = false := by simp [he]
      have HE := Lib.hid he
      clear he
      go_wp2
      exact bodyPost_ret (v := .agg #[.int .i64 er, .int .u64 v]) (by simp [results, Tryz.results11, go_sem, hr0, hr1]) rfl ⟨v, er, by rw [resV, if_pos HE.out], w3, w2, p1, p2, p3, p4, fin _⟩
    · have he2 : (er != 0) = true := by simp [he]
      have HE := Lib.hid he
      clear he
      go_wp2
      exact bodyPost_ret (v := .agg #[.int .i64 er, .int .u64 0]) (by simp [results, Tryz.results11, go_sem, hr0, hr1]) rfl ⟨v, er, by rw [resV, if_neg HE.out], w3, w2, p1, p2, p3, p4, fin _⟩

set_option maxRecDepth 100000 in
set_option maxHeartbeats 4000000 in
theorem do4_any (mb : Nat) (a b c : Int) (w : World) (Post : World → Int → Int → World → Prop) (SS : Nat → Prop) (hs2 : ¬ SS mb) (hs3 : ∀ k, SS k → k < w.heap.size)
    (h : ∀ w1, Below w.heap.size w w1 → Calls Tryz.prog 63 #[.pointer (some ⟨mb, 0, none⟩), opV 4 a b c] w1 fun e w' => ∃ v er, e = .returned (.tuple #[.int .u64 v, .int .i64 er]) ∧ Post w1 v er w' ∧ Moved SS w1 w') :
    Calls Tryz.prog 11 #[.pointer (some ⟨mb, 0, none⟩), opV 4 a b c] w fun e w' => ∃ v er, e = .returned (resV v er) ∧ ∃ w1 w2, Below w.heap.size w w1 ∧ w.heap.size + 1 < w1.heap.size ∧ Post w1 v er w2 ∧ Moved SS w1 w2 ∧ Moved (fun q => q = w.heap.size + 1) w2 w' := by
  obtain ⟨X, hX⟩ : ∃ X, (w.alloc (.cells #[.int .i64 4, .int .u64 a, .int .u64 b, .int .u64 c] 36)).alloc (.cells #[.int .i64 0, .int .u64 0] 39) = X := ⟨_, rfl⟩
  have hbX : Below w.heap.size w X := by rw [← hX]; exact ((Below.refl _ _).alloc (Nat.le_refl _) _).alloc (by simp) _
  have hsz : X.heap.size = w.heap.size + 2 := by rw [← hX]; simp
  have oX : X.heap[w.heap.size]? = some (.cells #[.int .i64 4, .int .u64 a, .int .u64 b, .int .u64 c] 36 (0, 0)) := by rw [← hX]; exact heap_alloc_lt (heap_alloc_eq _ _) _
  have oR : X.heap[w.heap.size + 1]? = some (.cells #[.int .i64 0, .int .u64 0] 39 (0, 0)) := by rw [← hX]; simpa using heap_alloc_eq (w.alloc (.cells #[.int .i64 4, .int .u64 a, .int .u64 b, .int .u64 c] 36)) (.cells #[.int .i64 0, .int .u64 0] 39)
  have k0 := heap_cell oX 0
  have k1 := heap_cell oX 1
  have k2 := heap_cell oX 2
  have k3 := heap_cell oX 3
  simp at k0 k1 k2 k3
  have HX := Lib.hid (And.intro hbX (And.intro hsz (And.intro oX oR)))
  have HH := Lib.hid h
  have HS := Lib.hid (And.intro hs2 hs3)
  clear h hbX hsz oX oR hs2 hs3
  go_enter Tryz.func11, Tryz.ntmps11
  go_wp2_with fail
  try rw [hX]
  go_wp2_with fail
  have hix : ∀ (b1 b3 b6 b7 b8 b9 b10 b11 b12 b13 b14 b15 : Nat) (w : World), (Instr.index 94 (.agg #[.nilFunc, clV 100 b1, fnV 59, clV 105 b3, fnV 63, fnV 64, clV 105 b6, clV 100 b7, clV 105 b8, clV 100 b9, clV 105 b10, clV 105 b11, clV 105 b12, clV 100 b13, clV 100 b14, clV 100 b15]) (.int .i64 4)).run Tryz.prog w = .ok (.agg #[fnV 63]) w := fun _ _ _ _ _ _ _ _ _ _ _ _ w => by kernel_rfl
  have hfl : ∀ (w : World), (Instr.field 93 (.agg #[fnV 63]) 0).run Tryz.prog w = .ok (fnV 63) w := fun w => by kernel_rfl
  have HA := fun n => (actions_any (X.drewN n)).mono (R' := fun e w1 => ∃ b1 b3 b6 b7 b8 b9 b10 b11 b12 b13 b14 b15 : Nat, e = .returned (.agg #[.nilFunc, clV 100 b1, fnV 59, clV 105 b3, fnV 63, fnV 64, clV 105 b6, clV 100 b7, clV 105 b8, clV 100 b9, clV 105 b10, clV 105 b11, clV 105 b12, clV 100 b13, clV 100 b14, clV 100 b15]) ∧ Below w.heap.size w w1 ∧ DoK w 4 a b c w1) (fun e w1 ⟨b1, b3, b6, b7, b8, b9, b10, b11, b12, b13, b14, b15, he, hb, ⟨g1, l1⟩, ⟨g3, l3⟩, ⟨g6, l6⟩, ⟨g7, l7⟩, ⟨g8, l8⟩, ⟨g9, l9⟩, ⟨g10, l10⟩, ⟨g11, l11⟩, ⟨g12, l12⟩, ⟨g13, l13⟩, ⟨g14, l14⟩, ⟨g15, l15⟩⟩ => ⟨b1, b3, b6, b7, b8, b9, b10, b11, b12, b13, b14, b15, he, HX.out.1.trans ((show Below X.heap.size X w1 from ⟨hb.os, hb.tape, hb.output, hb.size, hb.block⟩).mono HX.out.1.size), (⟨k0, k1, k2, k3, HX.out.2.2.2⟩ : DoK w 4 a b c X).moved (Moved.of_below (show Below X.heap.size X w1 from ⟨hb.os, hb.tape, hb.output, hb.size, hb.block⟩) (fun _ => False)) (fun _ e => e.elim)⟩)
  have HCL : ∀ (w1 : World) (g : Nat), Below w.heap.size w w1 → DoK w 4 a b c w1 → True → Calls Tryz.prog 63 #[.pointer (some ⟨mb, 0, none⟩), opV 4 a b c] w1 fun e w2 => ∃ v er, e = .returned (.tuple #[.int .u64 v, .int .i64 er]) ∧ DoP w 4 a b c SS Post v er w2 := by
    intro w1 g hb hk _
    refine (HH.out w1 hb).mono ?_
    rintro e w2 ⟨v, er, rfl, hP, hM⟩
    exact ⟨v, er, rfl, w1, hb, hk.sz, hP, hM, hk.moved hM HS.out.2⟩
  have HCL := Lib.hid HCL
  have HA := Lib.hid HA
  have HA0 := HA.out
  clear HA HH
  go_region_held3 (fun w' => w'.cell? ⟨w.heap.size, 0, none⟩ = some (.int .i64 4) ∧ w'.cell? ⟨w.heap.size, 1, none⟩ = some (.int .u64 a) ∧ w'.cell? ⟨w.heap.size, 2, none⟩ = some (.int .u64 b) ∧ w'.cell? ⟨w.heap.size, 3, none⟩ = some (.int .u64 c)) (first | exact ⟨HK.out.2.c0, HK.out.2.c1, HK.out.2.c2, HK.out.2.c3⟩ | exact ⟨HP.out.2.c0, HP.out.2.c1, HP.out.2.c2, HP.out.2.c3⟩ | go_keep) (first | (go_at_call 29; refine (HA0 _).mono ?_; rintro e w1 ⟨b1, b3, b6, b7, b8, b9, b10, b11, b12, b13, b14, b15, rfl, hb1, hk1⟩; have HK := Lib.hid (And.intro hb1 hk1); clear hb1 hk1) | (go_at_call 63; refine (HCL.out _ 0 HK.out.1 HK.out.2 trivial).mono ?_; rintro e w2 ⟨v, er, rfl, hP⟩; have HP := Lib.hid (And.intro hP hP.dok); clear hP))
  all_goals
    have hr0 := heap_cell HP.out.2.r 0
    have hr1 := heap_cell HP.out.2.r 1
    have hf0 := heap_free HP.out.2.r 0
    have hf1 := heap_free HP.out.2.r 1
    simp at hr0 hr1
    have fin : ∀ x : Int, Moved (fun q => q = w.heap.size + 1) w2 ((w2.setCell ⟨w.heap.size + 1, 0, none⟩ (.int .i64 er)).setCell ⟨w.heap.size + 1, 1, none⟩ (.int .u64 x)) := fun x => Moved.of_grown (grown_trans (grown_set _ _ _ _) (grown_set _ _ _ _)) (fun k e => by cases e; rfl)
    obtain ⟨w3, p1, p2, p3, p4, _⟩ := HP.out.1
    by_cases he : er = 0
    · have he2 : (er != 0) = false := by simp [he]
      have HE := Lib.hid he
      clear he
      go_wp2
      exact bodyPost_ret (v := .agg #[.int .i64 er, .int .u64 v]) (by simp [results, Tryz.results11, go_sem, hr0, hr1]) rfl ⟨v, er, by rw [resV, if_pos HE.out], w3, w2, p1, p2, p3, p4, fin _⟩
    · have he2 : (er != 0) = true := by simp [he]
      have HE := Lib.hid he
      clear he
      go_wp2
      exact bodyPost_ret (v := .agg #[.int .i64 er, .int .u64 0]) (by simp [results, Tryz.results11, go_sem, hr0, hr1]) rfl ⟨v, er, by rw [resV, if_neg HE.out], w3, w2, p1, p2, p3, p4, fin _⟩

set_option maxRecDepth 100000 in
set_option maxHeartbeats 4000000 in
theorem do5_any (mb : Nat) (a b c : Int) (w : World) (Post : World → Int → Int → World → Prop) (SS : Nat → Prop) (hs2 : ¬ SS mb) (hs3 : ∀ k, SS k → k < w.heap.size)
    (h : ∀ w1, Below w.heap.size w w1 → Calls Tryz.prog 64 #[.pointer (some ⟨mb, 0, none⟩), opV 5 a b c] w1 fun e w' => ∃ v er, e = .returned (.tuple #[.int .u64 v, .int .i64 er]) ∧ Post w1 v er w' ∧ Moved SS w1 w') :
    Calls Tryz.prog 11 #[.pointer (some ⟨mb, 0, none⟩), opV 5 a b c] w fun e w' => ∃ v er, e = .returned (resV v er) ∧ ∃ w1 w2, Below w.heap.size w w1 ∧ w.heap.size + 1 < w1.heap.size ∧ Post w1 v er w2 ∧ Moved SS w1 w2 ∧ Moved (fun q => q = w.heap.size + 1) w2 w' := by
  obtain ⟨X, hX⟩ : ∃ X, (w.alloc (.cells #[.int .i64 5, .int .u64 a, .int .u64 b, .int .u64 c] 36)).alloc (.cells #[.int .i64 0, .int .u64 0] 39) = X := ⟨_, rfl⟩
  have hbX : Below w.heap.size w X := by rw [← hX]; exact ((Below.refl _ _).alloc (Nat.le_refl _) _).alloc (by simp) _
  have hsz : X.heap.size = w.heap.size + 2 := by rw [← hX]; simp
  have oX : X.heap[w.heap.size]? = some (.cells #[.int .i64 5, .int .u64 a, .int .u64 b, .int .u64 c] 36 (0, 0)) := by rw [← hX]; exact heap_alloc_lt (heap_alloc_eq _ _) _
  have oR : X.heap[w.heap.size + 1]? = some (.cells #[.int .i64 0, .int .u64 0] 39 (0, 0)) := by rw [← hX]; simpa using heap_alloc_eq (w.alloc (.cells #[.int .i64 5, .int .u64 a, .int .u64 b, .int .u64 c] 36)) (.cells #[.int .i64 0, .int .u64 0] 39)
  have k0 := heap_cell oX 0
  have k1 := heap_cell oX 1
  have k2 := heap_cell oX 2
  have k3 := heap_cell oX 3
  simp at k0 k1 k2 k3
  have HX := Lib.hid (And.intro hbX (And.intro hsz (And.intro oX oR)))
  have HH := Lib.hid h
  have HS := Lib.hid (And.intro hs2 hs3)
  clear h hbX hsz oX oR hs2 hs3
  go_enter Tryz.func11, Tryz.ntmps11
  go_wp2_with fail
  try rw [hX]
  go_wp2_with fail
  have hix : ∀ (b1 b3 b6 b7 b8 b9 b10 b11 b12 b13 b14 b15 : Nat) (w : World), (Instr.index 94 (.agg #[.nilFunc, clV 100 b1, fnV 59, clV 105 b3, fnV 63, fnV 64, clV 105 b6, clV 100 b7, clV 105 b8, clV 100 b9, clV 105 b10, clV 105 b11, clV 105 b12, clV 100 b13, clV 100 b14, clV 100 b15]) (.int .i64 5)).run Tryz.prog w = .ok (.agg #[fnV 64]) w := fun _ _ _ _ _ _ _ _ _ _ _ _ w => by kernel_rfl
  have hfl : ∀ (w : World), (Instr.field 93 (.agg #[fnV 64]) 0).run Tryz.prog w = .ok (fnV 64) w := fun w => by kernel_rfl
  have HA := fun n => (actions_any (X.drewN n)).mono (R' := fun e w1 => ∃ b1 b3 b6 b7 b8 b9 b10 b11 b12 b13 b14 b15 : Nat, e = .returned (.agg #[.nilFunc, clV 100 b1, fnV 59, clV 105 b3, fnV 63, fnV 64, clV 105 b6, clV 100 b7, clV 105 b8, clV 100 b9, clV 105 b10, clV 105 b11, clV 105 b12, clV 100 b13, clV 100 b14, clV 100 b15]) ∧ Below w.heap.size w w1 ∧ DoK w 5 a b c w1) (fun e w1 ⟨b1, b3, b6, b7, b8, b9, b10, b11, b12, b13, b14, b15, he, hb, ⟨g1, l1⟩, ⟨g3, l3⟩, ⟨g6, l6⟩, ⟨g7, l7⟩, ⟨g8, l8⟩, ⟨g9, l9⟩, ⟨g10, l10⟩, ⟨g11, l11⟩, ⟨g12, l12⟩, ⟨g13, l13⟩, ⟨g14, l14⟩, ⟨g15, l15⟩⟩ => ⟨b1, b3, b6, b7, b8, b9, b10, b11, b12, b13, b14, b15, he, HX.out.1.trans ((show Below X.heap.size X w1 from ⟨hb.os, hb.tape, hb.output, hb.size, hb.block⟩).mono HX.out.1.size), (⟨k0, k1, k2, k3, HX.out.2.2.2⟩ : DoK w 5 a b c X).moved (Moved.of_below (show Below X.heap.size X w1 from ⟨hb.os, hb.tape, hb.output, hb.size, hb.block⟩) (fun _ => False)) (fun _ e => e.elim)⟩)
  have HCL : ∀ (w1 : World) (g : Nat), Below w.heap.size w w1 → DoK w 5 a b c w1 → True → Calls Tryz.prog 64 #[.pointer (some ⟨mb, 0, none⟩), opV 5 a b c] w1 fun e w2 => ∃ v er, e = .returned (.tuple #[.int .u64 v, .int .i64 er]) ∧ DoP w 5 a b c SS Post v er w2 := by
    intro w1 g hb hk _
    refine (HH.out w1 hb).mono ?_
    rintro e w2 ⟨v, er, rfl, hP, hM⟩
    exact ⟨v, er, rfl, w1, hb, hk.sz, hP, hM, hk.moved hM HS.out.2⟩
  have HCL := Lib.hid HCL
  have HA := Lib.hid HA
  have HA0 := HA.out
  clear HA HH
  go_region_held3 (fun w' => w'.cell? ⟨w.heap.size, 0, none⟩ = some (.int .i64 5) ∧ w'.cell? ⟨w.heap.size, 1, none⟩ = some (.int .u64 a) ∧ w'.cell? ⟨w.heap.size, 2, none⟩ = some (.int .u64 b) ∧ w'.cell? ⟨w.heap.size, 3, none⟩ = some (.int .u64 c)) (first | exact ⟨HK.out.2.c0, HK.out.2.c1, HK.out.2.c2, HK.out.2.c3⟩ | exact ⟨HP.out.2.c0, HP.out.2.c1, HP.out.2.c2, HP.out.2.c3⟩ | go_keep) (first | (go_at_call 29; refine (HA0 _).mono ?_; rintro e w1 ⟨b1, b3, b6, b7, b8, b9, b10, b11, b12, b13, b14, b15, rfl, hb1, hk1⟩; have HK := Lib.hid (And.intro hb1 hk1); clear hb1 hk1) | (go_at_call 64; refine (HCL.out _ 0 HK.out.1 HK.out.2 trivial).mono ?_; rintro e w2 ⟨v, er, rfl, hP⟩; have HP := Lib.hid (And.intro hP hP.dok); clear hP))
  all_goals
    have hr0 := heap_cell HP.out.2.r 0
    have hr1 := heap_cell HP.out.2.r 1
    have hf0 := heap_free HP.out.2.r 0
    have hf1 := heap_free HP.out.2.r 1
    simp at hr0 hr1
    have fin : ∀ x : Int, Moved (fun q => q = w.heap.size + 1) w2 ((w2.setCell ⟨w.heap.size + 1, 0, none⟩ (.int .i64 er)).setCell ⟨w.heap.size + 1, 1, none⟩ (.int .u64 x)) := fun x => Moved.of_grown (grown_trans (grown_set _ _ _ _) (grown_set _ _ _ _)) (fun k e => by cases e; rfl)
    obtain ⟨w3, p1, p2, p3, p4, _⟩ := HP.out.1
    by_cases he : er = 0
    · have he2 : (er != 0) = false := by simp [he]
      have HE := Lib.hid he
      clear he
      go_wp2
      exact bodyPost_ret (v := .agg #[.int .i64 er, .int .u64 v]) (by simp [results, Tryz.results11, go_sem, hr0, hr1]) rfl ⟨v, er, by rw [resV, if_pos HE.out], w3, w2, p1, p2, p3, p4, fin _⟩
    · have he2 : (er != 0) = true := by simp [he]
      have HE := Lib.hid he
      clear he
      go_wp2
      exact bodyPost_ret (v := .agg #[.int .i64 er, .int .u64 0]) (by simp [results, Tryz.results11, go_sem, hr0, hr1]) rfl ⟨v, er, by rw [resV, if_neg HE.out], w3, w2, p1, p2, p3, p4, fin _⟩

set_option maxRecDepth 100000 in
set_option maxHeartbeats 4000000 in
theorem do6_any (mb : Nat) (hv : Addr) (a b c : Int) (w : World) (Post : World → Int → Int → World → Prop) (SS : Nat → Prop) (hs2 : ¬ SS mb) (hs3 : ∀ k, SS k → k < w.heap.size)
    (hm : w.cell? ⟨mb, 0, none⟩ = some (.pointer (some hv)))
    (h : ∀ w1, Below w.heap.size w w1 → Calls Tryz.prog 65 #[.pointer (some hv), opV 6 a b c] w1 fun e w' => ∃ er, e = .returned (.int .i64 er) ∧ Post w1 0 er w' ∧ Moved SS w1 w') :
    Calls Tryz.prog 11 #[.pointer (some ⟨mb, 0, none⟩), opV 6 a b c] w fun e w' => ∃ v er, e = .returned (resV v er) ∧ ∃ w1 w2, Below w.heap.size w w1 ∧ w.heap.size + 1 < w1.heap.size ∧ Post w1 v er w2 ∧ Moved SS w1 w2 ∧ Moved (fun q => q = w.heap.size + 1) w2 w' := by
  obtain ⟨X, hX⟩ : ∃ X, (w.alloc (.cells #[.int .i64 6, .int .u64 a, .int .u64 b, .int .u64 c] 36)).alloc (.cells #[.int .i64 0, .int .u64 0] 39) = X := ⟨_, rfl⟩
  have hbX : Below w.heap.size w X := by rw [← hX]; exact ((Below.refl _ _).alloc (Nat.le_refl _) _).alloc (by simp) _
  have hsz : X.heap.size = w.heap.size + 2 := by rw [← hX]; simp
  have oX : X.heap[w.heap.size]? = some (.cells #[.int .i64 6, .int .u64 a, .int .u64 b, .int .u64 c] 36 (0, 0)) := by rw [← hX]; exact heap_alloc_lt (heap_alloc_eq _ _) _
  have oR : X.heap[w.heap.size + 1]? = some (.cells #[.int .i64 0, .int .u64 0] 39 (0, 0)) := by rw [← hX]; simpa using heap_alloc_eq (w.alloc (.cells #[.int .i64 6, .int .u64 a, .int .u64 b, .int .u64 c] 36)) (.cells #[.int .i64 0, .int .u64 0] 39)
  have k0 := heap_cell oX 0
  have k1 := heap_cell oX 1
  have k2 := heap_cell oX 2
  have k3 := heap_cell oX 3
  simp at k0 k1 k2 k3
  have HX := Lib.hid (And.intro hbX (And.intro hsz (And.intro oX oR)))
  have HH := Lib.hid h
  have HS := Lib.hid (And.intro hs2 hs3)
  clear h hbX hsz oX oR hs2 hs3
  go_enter Tryz.func11, Tryz.ntmps11
  go_wp2_with fail
  try rw [hX]
  go_wp2_with fail
  have hix : ∀ (b1 b3 b6 b7 b8 b9 b10 b11 b12 b13 b14 b15 : Nat) (w : World), (Instr.index 94 (.agg #[.nilFunc, clV 100 b1, fnV 59, clV 105 b3, fnV 63, fnV 64, clV 105 b6, clV 100 b7, clV 105 b8, clV 100 b9, clV 105 b10, clV 105 b11, clV 105 b12, clV 100 b13, clV 100 b14, clV 100 b15]) (.int .i64 6)).run Tryz.prog w = .ok (.agg #[clV 105 b6]) w := fun _ _ _ _ _ _ _ _ _ _ _ _ w => by kernel_rfl
  have hfl : ∀ (g : Nat) (w : World), (Instr.field 93 (.agg #[clV 105 g]) 0).run Tryz.prog w = .ok (clV 105 g) w := fun g w => by kernel_rfl
  have HA := fun n => (actions_any (X.drewN n)).mono (R' := fun e w1 => ∃ b1 b3 b6 b7 b8 b9 b10 b11 b12 b13 b14 b15 : Nat, e = .returned (.agg #[.nilFunc, clV 100 b1, fnV 59, clV 105 b3, fnV 63, fnV 64, clV 105 b6, clV 100 b7, clV 105 b8, clV 100 b9, clV 105 b10, clV 105 b11, clV 105 b12, clV 100 b13, clV 100 b14, clV 100 b15]) ∧ Below w.heap.size w w1 ∧ DoK w 6 a b c w1 ∧ w1.cell? ⟨b6, 0, none⟩ = some (fnV 65) ∧ w.heap.size < b6) (fun e w1 ⟨b1, b3, b6, b7, b8, b9, b10, b11, b12, b13, b14, b15, he, hb, ⟨g1, l1⟩, ⟨g3, l3⟩, ⟨g6, l6⟩, ⟨g7, l7⟩, ⟨g8, l8⟩, ⟨g9, l9⟩, ⟨g10, l10⟩, ⟨g11, l11⟩, ⟨g12, l12⟩, ⟨g13, l13⟩, ⟨g14, l14⟩, ⟨g15, l15⟩⟩ => ⟨b1, b3, b6, b7, b8, b9, b10, b11, b12, b13, b14, b15, he, HX.out.1.trans ((show Below X.heap.size X w1 from ⟨hb.os, hb.tape, hb.output, hb.size, hb.block⟩).mono HX.out.1.size), (⟨k0, k1, k2, k3, HX.out.2.2.2⟩ : DoK w 6 a b c X).moved (Moved.of_below (show Below X.heap.size X w1 from ⟨hb.os, hb.tape, hb.output, hb.size, hb.block⟩) (fun _ => False)) (fun _ e => e.elim), g6, by have := HX.out.2.1; simp at l6; omega⟩)
  have HCL : ∀ (w1 : World) (g : Nat), Below w.heap.size w w1 → DoK w 6 a b c w1 → w1.cell? ⟨g, 0, none⟩ = some (fnV 65) ∧ w.heap.size < g → Calls Tryz.prog 105 #[.pointer (some ⟨mb, 0, none⟩), opV 6 a b c, .pointer (some ⟨g, 0, none⟩)] w1 fun e w2 => ∃ v er, e = .returned (.tuple #[.int .u64 v, .int .i64 er]) ∧ DoP w 6 a b c SS Post v er w2 := by
    intro w1 g hb hk ⟨hg, hl⟩
    refine (none1_any 65 g mb hv 6 a b c w1 Post (fun args w => rfl) hg ((hb.cell (cell_lt hm)).trans hm) SS (fun e => by have := HS.out.2 _ e; omega) HS.out.1 (fun e => by have := HS.out.2 _ e; have := hk.sz; omega) (fun w2 hb2 => HH.out w2 (hb.trans (hb2.mono hb.size)))).mono ?_
    rintro e w2 ⟨v, er, rfl, w3, hb3, hP, hM⟩
    exact ⟨v, er, rfl, w3, hb.trans (hb3.mono hb.size), by have := hk.sz; have := hb3.size; omega, hP, hM, (hk.moved (Moved.of_below hb3 (fun _ => False)) (fun _ e => e.elim)).moved hM HS.out.2⟩
  have HCL := Lib.hid HCL
  have HA := Lib.hid HA
  have HA0 := HA.out
  clear HA HH hm
  go_region_held3 (fun w' => w'.cell? ⟨w.heap.size, 0, none⟩ = some (.int .i64 6) ∧ w'.cell? ⟨w.heap.size, 1, none⟩ = some (.int .u64 a) ∧ w'.cell? ⟨w.heap.size, 2, none⟩ = some (.int .u64 b) ∧ w'.cell? ⟨w.heap.size, 3, none⟩ = some (.int .u64 c)) (first | exact ⟨HK.out.2.c0, HK.out.2.c1, HK.out.2.c2, HK.out.2.c3⟩ | exact ⟨HP.out.2.c0, HP.out.2.c1, HP.out.2.c2, HP.out.2.c3⟩ | go_keep) (first | (go_at_call 29; refine (HA0 _).mono ?_; rintro e w1 ⟨b1, b3, b6, b7, b8, b9, b10, b11, b12, b13, b14, b15, rfl, hb1, hk1, hg1, hl1⟩; have HK := Lib.hid (And.intro hb1 hk1); clear hb1 hk1) | (go_at_call 105; refine (HCL.out _ _ HK.out.1 HK.out.2 ⟨hg1, hl1⟩).mono ?_; rintro e w2 ⟨v, er, rfl, hP⟩; have HP := Lib.hid (And.intro hP hP.dok); clear hP))
  all_goals
    have hr0 := heap_cell HP.out.2.r 0
    have hr1 := heap_cell HP.out.2.r 1
    have hf0 := heap_free HP.out.2.r 0
    have hf1 := heap_free HP.out.2.r 1
    simp at hr0 hr1
    have fin : ∀ x : Int, Moved (fun q => q = w.heap.size + 1) w2 ((w2.setCell ⟨w.heap.size + 1, 0, none⟩ (.int .i64 er)).setCell ⟨w.heap.size + 1, 1, none⟩ (.int .u64 x)) := fun x => Moved.of_grown (grown_trans (grown_set _ _ _ _) (grown_set _ _ _ _)) (fun k e => by cases e; rfl)
    obtain ⟨w3, p1, p2, p3, p4, _⟩ := HP.out.1
    by_cases he : er = 0
    · have he2 : (er != 0) = false := by simp [he]
      have HE := Lib.hid he
      clear he
      go_wp2
      exact bodyPost_ret (v := .agg #[.int .i64 er, .int .u64 v]) (by simp [results, Tryz.results11, go_sem, hr0, hr1]) rfl ⟨v, er, by rw [resV, if_pos HE.out], w3, w2, p1, p2, p3, p4, fin _⟩
    · have he2 : (er != 0) = true := by simp [he]
      have HE := Lib.hid he
      clear he
      go_wp2
      exact bodyPost_ret (v := .agg #[.int .i64 er, .int .u64 0]) (by simp [results, Tryz.results11, go_sem, hr0, hr1]) rfl ⟨v, er, by rw [resV, if_neg HE.out], w3, w2, p1, p2, p3, p4, fin _⟩

set_option maxRecDepth 100000 in
set_option maxHeartbeats 4000000 in
theorem do7_any (mb : Nat) (hv : Addr) (a b c : Int) (w : World) (Post : World → Int → Int → World → Prop) (SS : Nat → Prop) (hs2 : ¬ SS mb) (hs3 : ∀ k, SS k → k < w.heap.size)
    (hm : w.cell? ⟨mb, 0, none⟩ = some (.pointer (some hv)))
    (h : ∀ w1, Below w.heap.size w w1 → Calls Tryz.prog 67 #[.pointer (some hv), opV 7 a b c] w1 fun e w' => ∃ v er, e = .returned (.tuple #[.int .u64 v, .int .i64 er]) ∧ Post w1 v er w' ∧ Moved SS w1 w') :
    Calls Tryz.prog 11 #[.pointer (some ⟨mb, 0, none⟩), opV 7 a b c] w fun e w' => ∃ v er, e = .returned (resV v er) ∧ ∃ w1 w2, Below w.heap.size w w1 ∧ w.heap.size + 1 < w1.heap.size ∧ Post w1 v er w2 ∧ Moved SS w1 w2 ∧ Moved (fun q => q = w.heap.size + 1) w2 w' := by
  obtain ⟨X, hX⟩ : ∃ X, (w.alloc (.cells #[.int .i64 7, .int .u64 a, .int .u64 b, .int .u64 c] 36)).alloc (.cells #[.int .i64 0, .int .u64 0] 39) = X := ⟨_, rfl⟩
  have hbX : Below w.heap.size w X := by rw [← hX]; exact ((Below.refl _ _).alloc (Nat.le_refl _) _).alloc (by simp) _
  have hsz : X.heap.size = w.heap.size + 2 := by rw [← hX]; simp
  have oX : X.heap[w.heap.size]? = some (.cells #[.int .i64 7, .int .u64 a, .int .u64 b, .int .u64 c] 36 (0, 0)) := by rw [← hX]; exact heap_alloc_lt (heap_alloc_eq _ _) _
  have oR : X.heap[w.heap.size + 1]? = some (.cells #[.int .i64 0, .int .u64 0] 39 (0, 0)) := by rw [← hX]; simpa using heap_alloc_eq (w.alloc (.cells #[.int .i64 7, .int .u64 a, .int .u64 b, .int .u64 c] 36)) (.cells #[.int .i64 0, .int .u64 0] 39)
  have k0 := heap_cell oX 0
  have k1 := heap_cell oX 1
  have k2 := heap_cell oX 2
  have k3 := heap_cell oX 3
  simp at k0 k1 k2 k3
  have HX := Lib.hid (And.intro hbX (And.intro hsz (And.intro oX oR)))
  have HH := Lib.hid h
  have HS := Lib.hid (And.intro hs2 hs3)
  clear h hbX hsz oX oR hs2 hs3
  go_enter Tryz.func11, Tryz.ntmps11
  go_wp2_with fail
  try rw [hX]
  go_wp2_with fail
  have hix : ∀ (b1 b3 b6 b7 b8 b9 b10 b11 b12 b13 b14 b15 : Nat) (w : World), (Instr.index 94 (.agg #[.nilFunc, clV 100 b1, fnV 59, clV 105 b3, fnV 63, fnV 64, clV 105 b6, clV 100 b7, clV 105 b8, clV 100 b9, clV 105 b10, clV 105 b11, clV 105 b12, clV 100 b13, clV 100 b14, clV 100 b15]) (.int .i64 7)).run Tryz.prog w = .ok (.agg #[clV 100 b7]) w := fun _ _ _ _ _ _ _ _ _ _ _ _ w => by kernel_rfl
  have hfl : ∀ (g : Nat) (w : World), (Instr.field 93 (.agg #[clV 100 g]) 0).run Tryz.prog w = .ok (clV 100 g) w := fun g w => by kernel_rfl
  have HA := fun n => (actions_any (X.drewN n)).mono (R' := fun e w1 => ∃ b1 b3 b6 b7 b8 b9 b10 b11 b12 b13 b14 b15 : Nat, e = .returned (.agg #[.nilFunc, clV 100 b1, fnV 59, clV 105 b3, fnV 63, fnV 64, clV 105 b6, clV 100 b7, clV 105 b8, clV 100 b9, clV 105 b10, clV 105 b11, clV 105 b12, clV 100 b13, clV 100 b14, clV 100 b15]) ∧ Below w.heap.size w w1 ∧ DoK w 7 a b c w1 ∧ w1.cell? ⟨b7, 0, none⟩ = some (fnV 67) ∧ w.heap.size < b7) (fun e w1 ⟨b1, b3, b6, b7, b8, b9, b10, b11, b12, b13, b14, b15, he, hb, ⟨g1, l1⟩, ⟨g3, l3⟩, ⟨g6, l6⟩, ⟨g7, l7⟩, ⟨g8, l8⟩, ⟨g9, l9⟩, ⟨g10, l10⟩, ⟨g11, l11⟩, ⟨g12, l12⟩, ⟨g13, l13⟩, ⟨g14, l14⟩, ⟨g15, l15⟩⟩ => ⟨b1, b3, b6, b7, b8, b9, b10, b11, b12, b13, b14, b15, he, HX.out.1.trans ((show Below X.heap.size X w1 from ⟨hb.os, hb.tape, hb.output, hb.size, hb.block⟩).mono HX.out.1.size), (⟨k0, k1, k2, k3, HX.out.2.2.2⟩ : DoK w 7 a b c X).moved (Moved.of_below (show Below X.heap.size X w1 from ⟨hb.os, hb.tape, hb.output, hb.size, hb.block⟩) (fun _ => False)) (fun _ e => e.elim), g7, by have := HX.out.2.1; simp at l7; omega⟩)
  have HCL : ∀ (w1 : World) (g : Nat), Below w.heap.size w w1 → DoK w 7 a b c w1 → w1.cell? ⟨g, 0, none⟩ = some (fnV 67) ∧ w.heap.size < g → Calls Tryz.prog 100 #[.pointer (some ⟨mb, 0, none⟩), opV 7 a b c, .pointer (some ⟨g, 0, none⟩)] w1 fun e w2 => ∃ v er, e = .returned (.tuple #[.int .u64 v, .int .i64 er]) ∧ DoP w 7 a b c SS Post v er w2 := by
    intro w1 g hb hk ⟨hg, hl⟩
    refine (some1_any 67 g mb hv 7 a b c w1 Post (fun args w => rfl) hg ((hb.cell (cell_lt hm)).trans hm) SS (fun e => by have := HS.out.2 _ e; omega) HS.out.1 (fun e => by have := HS.out.2 _ e; have := hk.sz; omega) (fun w2 hb2 => HH.out w2 (hb.trans (hb2.mono hb.size)))).mono ?_
    rintro e w2 ⟨v, er, rfl, w3, hb3, hP, hM⟩
    exact ⟨v, er, rfl, w3, hb.trans (hb3.mono hb.size), by have := hk.sz; have := hb3.size; omega, hP, hM, (hk.moved (Moved.of_below hb3 (fun _ => False)) (fun _ e => e.elim)).moved hM HS.out.2⟩
  have HCL := Lib.hid HCL
  have HA := Lib.hid HA
  have HA0 := HA.out
  clear HA HH hm
  go_region_held3 (fun w' => w'.cell? ⟨w.heap.size, 0, none⟩ = some (.int .i64 7) ∧ w'.cell? ⟨w.heap.size, 1, none⟩ = some (.int .u64 a) ∧ w'.cell? ⟨w.heap.size, 2, none⟩ = some (.int .u64 b) ∧ w'.cell? ⟨w.heap.size, 3, none⟩ = some (.int .u64 c)) (first | exact ⟨HK.out.2.c0, HK.out.2.c1, HK.out.2.c2, HK.out.2.c3⟩ | exact ⟨HP.out.2.c0, HP.out.2.c1, HP.out.2.c2, HP.out.2.c3⟩ | go_keep) (first | (go_at_call 29; refine (HA0 _).mono ?_; rintro e w1 ⟨b1, b3, b6, b7, b8, b9, b10, b11, b12, b13, b14, b15, rfl, hb1, hk1, hg1, hl1⟩; have HK := Lib.hid (And.intro hb1 hk1); clear hb1 hk1) | (go_at_call 100; refine (HCL.out _ _ HK.out.1 HK.out.2 ⟨hg1, hl1⟩).mono ?_; rintro e w2 ⟨v, er, rfl, hP⟩; have HP := Lib.hid (And.intro hP hP.dok); clear hP))
  all_goals
    have hr0 := heap_cell HP.out.2.r 0
    have hr1 := heap_cell HP.out.2.r 1
    have hf0 := heap_free HP.out.2.r 0
    have hf1 := heap_free HP.out.2.r 1
    simp at hr0 hr1
    have fin : ∀ x : Int, Moved (fun q => q = w.heap.size + 1) w2 ((w2.setCell ⟨w.heap.size + 1, 0, none⟩ (.int .i64 er)).setCell ⟨w.heap.size + 1, 1, none⟩ (.int .u64 x)) := fun x => Moved.of_grown (grown_trans (grown_set _ _ _ _) (grown_set _ _ _ _)) (fun k e => by cases e; rfl)
    obtain ⟨w3, p1, p2, p3, p4, _⟩ := HP.out.1
    by_cases he : er = 0
    · have he2 : (er != 0) = false := by simp [he]
      have HE := Lib.hid he
      clear he
      go_wp2
      exact bodyPost_ret (v := .agg #[.int .i64 er, .int .u64 v]) (by simp [results, Tryz.results11, go_sem, hr0, hr1]) rfl ⟨v, er, by rw [resV, if_pos HE.out], w3, w2, p1, p2, p3, p4, fin _⟩
    · have he2 : (er != 0) = true := by simp [he]
      have HE := Lib.hid he
      clear he
      go_wp2
      exact bodyPost_ret (v := .agg #[.int .i64 er, .int .u64 0]) (by simp [results, Tryz.results11, go_sem, hr0, hr1]) rfl ⟨v, er, by rw [resV, if_neg HE.out], w3, w2, p1, p2, p3, p4, fin _⟩

set_option maxRecDepth 100000 in
set_option maxHeartbeats 4000000 in
theorem do8_any (mb : Nat) (hv : Addr) (a b c : Int) (w : World) (Post : World → Int → Int → World → Prop) (SS : Nat → Prop) (hs2 : ¬ SS mb) (hs3 : ∀ k, SS k → k < w.heap.size)
    (hm : w.cell? ⟨mb, 0, none⟩ = some (.pointer (some hv)))
    (h : ∀ w1, Below w.heap.size w w1 → Calls Tryz.prog 69 #[.pointer (some hv), opV 8 a b c] w1 fun e w' => ∃ er, e = .returned (.int .i64 er) ∧ Post w1 0 er w' ∧ Moved SS w1 w') :
    Calls Tryz.prog 11 #[.pointer (some ⟨mb, 0, none⟩), opV 8 a b c] w fun e w' => ∃ v er, e = .returned (resV v er) ∧ ∃ w1 w2, Below w.heap.size w w1 ∧ w.heap.size + 1 < w1.heap.size ∧ Post w1 v er w2 ∧ Moved SS w1 w2 ∧ Moved (fun q => q = w.heap.size + 1) w2 w' := by
  obtain ⟨X, hX⟩ : ∃ X, (w.alloc (.cells #[.int .i64 8, .int .u64 a, .int .u64 b, .int .u64 c] 36)).alloc (.cells #[.int .i64 0, .int .u64 0] 39) = X := ⟨_, rfl⟩
  have hbX : Below w.heap.size w X := by rw [← hX]; exact ((Below.refl _ _).alloc (Nat.le_refl _) _).alloc (by simp) _
  have hsz : X.heap.size = w.heap.size + 2 := by rw [← hX]; simp
  have oX : X.heap[w.heap.size]? = some (.cells #[.int .i64 8, .int .u64 a, .int .u64 b, .int .u64 c] 36 (0, 0)) := by rw [← hX]; exact heap_alloc_lt (heap_alloc_eq _ _) _
  have oR : X.heap[w.heap.size + 1]? = some (.cells #[.int .i64 0, .int .u64 0] 39 (0, 0)) := by rw [← hX]; simpa using heap_alloc_eq (w.alloc (.cells #[.int .i64 8, .int .u64 a, .int .u64 b, .int .u64 c] 36)) (.cells #[.int .i64 0, .int .u64 0] 39)
  have k0 := heap_cell oX 0
  have k1 := heap_cell oX 1
  have k2 := heap_cell oX 2
  have k3 := heap_cell oX 3
  simp at k0 k1 k2 k3
  have HX := Lib.hid (And.intro hbX (And.intro hsz (And.intro oX oR)))
  have HH := Lib.hid h
  have HS := Lib.hid (And.intro hs2 hs3)
  clear h hbX hsz oX oR hs2 hs3
  go_enter Tryz.func11, Tryz.ntmps11
  go_wp2_with fail
  try rw [hX]
  go_wp2_with fail
  have hix : ∀ (b1 b3 b6 b7 b8 b9 b10 b11 b12 b13 b14 b15 : Nat) (w : World), (Instr.index 94 (.agg #[.nilFunc, clV 100 b1, fnV 59, clV 105 b3, fnV 63, fnV 64, clV 105 b6, clV 100 b7, clV 105 b8, clV 100 b9, clV 105 b10, clV 105 b11, clV 105 b12, clV 100 b13, clV 100 b14, clV 100 b15]) (.int .i64 8)).run Tryz.prog w = .ok (.agg #[clV 105 b8]) w := fun _ _ _ _ _ _ _ _ _ _ _ _ w => by kernel_rfl
  have hfl : ∀ (g : Nat) (w : World), (Instr.field 93 (.agg #[clV 105 g]) 0).run Tryz.prog w = .ok (clV 105 g) w := fun g w => by kernel_rfl
  have HA := fun n => (actions_any (X.drewN n)).mono (R' := fun e w1 => ∃ b1 b3 b6 b7 b8 b9 b10 b11 b12 b13 b14 b15 : Nat, e = .returned (.agg #[.nilFunc, clV 100 b1, fnV 59, clV 105 b3, fnV 63, fnV 64, clV 105 b6, clV 100 b7, clV 105 b8, clV 100 b9, clV 105 b10, clV 105 b11, clV 105 b12, clV 100 b13, clV 100 b14, clV 100 b15]) ∧ Below w.heap.size w w1 ∧ DoK w 8 a b c w1 ∧ w1.cell? ⟨b8, 0, none⟩ = some (fnV 69) ∧ w.heap.size < b8) (fun e w1 ⟨b1, b3, b6, b7, b8, b9, b10, b11, b12, b13, b14, b15, he, hb, ⟨g1, l1⟩, ⟨g3, l3⟩, ⟨g6, l6⟩, ⟨g7, l7⟩, ⟨g8, l8⟩, ⟨g9, l9⟩, ⟨g10, l10⟩, ⟨g11, l11⟩, ⟨g12, l12⟩, ⟨g13, l13⟩, ⟨g14, l14⟩, ⟨g15, l15⟩⟩ => ⟨b1, b3, b6, b7, b8, b9, b10, b11, b12, b13, b14, b15, he, HX.out.1.trans ((show Below X.heap.size X w1 from ⟨hb.os, hb.tape, hb.output, hb.size, hb.block⟩).mono HX.out.1.size), (⟨k0, k1, k2, k3, HX.out.2.2.2⟩ : DoK w 8 a b c X).moved (Moved.of_below (show Below X.heap.size X w1 from ⟨hb.os, hb.tape, hb.output, hb.size, hb.block⟩) (fun _ => False)) (fun _ e => e.elim), g8, by have := HX.out.2.1; simp at l8; omega⟩)
  have HCL : ∀ (w1 : World) (g : Nat), Below w.heap.size w w1 → DoK w 8 a b c w1 → w1.cell? ⟨g, 0, none⟩ = some (fnV 69) ∧ w.heap.size < g → Calls Tryz.prog 105 #[.pointer (some ⟨mb, 0, none⟩), opV 8 a b c, .pointer (some ⟨g, 0, none⟩)] w1 fun e w2 => ∃ v er, e = .returned (.tuple #[.int .u64 v, .int .i64 er]) ∧ DoP w 8 a b c SS Post v er w2 := by
    intro w1 g hb hk ⟨hg, hl⟩
    refine (none1_any 69 g mb hv 8 a b c w1 Post (fun args w => rfl) hg ((hb.cell (cell_lt hm)).trans hm) SS (fun e => by have := HS.out.2 _ e; omega) HS.out.1 (fun e => by have := HS.out.2 _ e; have := hk.sz; omega) (fun w2 hb2 => HH.out w2 (hb.trans (hb2.mono hb.size)))).mono ?_
    rintro e w2 ⟨v, er, rfl, w3, hb3, hP, hM⟩
    exact ⟨v, er, rfl, w3, hb.trans (hb3.mono hb.size), by have := hk.sz; have := hb3.size; omega, hP, hM, (hk.moved (Moved.of_below hb3 (fun _ => False)) (fun _ e => e.elim)).moved hM HS.out.2⟩
  have HCL := Lib.hid HCL
  have HA := Lib.hid HA
  have HA0 := HA.out
  clear HA HH hm
  go_region_held3 (fun w' => w'.cell? ⟨w.heap.size, 0, none⟩ = some (.int .i64 8) ∧ w'.cell? ⟨w.heap.size, 1, none⟩ = some (.int .u64 a) ∧ w'.cell? ⟨w.heap.size, 2, none⟩ = some (.int .u64 b) ∧ w'.cell? ⟨w.heap.size, 3, none⟩ = some (.int .u64 c)) (first | exact ⟨HK.out.2.c0, HK.out.2.c1, HK.out.2.c2, HK.out.2.c3⟩ | exact ⟨HP.out.2.c0, HP.out.2.c1, HP.out.2.c2, HP.out.2.c3⟩ | go_keep) (first | (go_at_call 29; refine (HA0 _).mono ?_; rintro e w1 ⟨b1, b3, b6, b7, b8, b9, b10, b11, b12, b13, b14, b15, rfl, hb1, hk1, hg1, hl1⟩; have HK := Lib.hid (And.intro hb1 hk1); clear hb1 hk1) | (go_at_call 105; refine (HCL.out _ _ HK.out.1 HK.out.2 ⟨hg1, hl1⟩).mono ?_; rintro e w2 ⟨v, er, rfl, hP⟩; have HP := Lib.hid (And.intro hP hP.dok); clear hP))
  all_goals
    have hr0 := heap_cell HP.out.2.r 0
    have hr1 := heap_cell HP.out.2.r 1
    have hf0 := heap_free HP.out.2.r 0
    have hf1 := heap_free HP.out.2.r 1
    simp at hr0 hr1
    have fin : ∀ x : Int, Moved (fun q => q = w.heap.size + 1) w2 ((w2.setCell ⟨w.heap.size + 1, 0, none⟩ (.int .i64 er)).setCell ⟨w.heap.size + 1, 1, none⟩ (.int .u64 x)) := fun x => Moved.of_grown (grown_trans (grown_set _ _ _ _) (grown_set _ _ _ _)) (fun k e => by cases e; rfl)
    obtain ⟨w3, p1, p2, p3, p4, _⟩ := HP.out.1
    by_cases he : er = 0
    · have he2 : (er != 0) = false := by simp [he]
      have HE := Lib.hid he
      clear he
      go_wp2
      exact bodyPost_ret (v := .agg #[.int .i64 er, .int .u64 v]) (by simp [results, Tryz.results11, go_sem, hr0, hr1]) rfl ⟨v, er, by rw [resV, if_pos HE.out], w3, w2, p1, p2, p3, p4, fin _⟩
    · have he2 : (er != 0) = true := by simp [he]
      have HE := Lib.hid he
      clear he
      go_wp2
      exact bodyPost_ret (v := .agg #[.int .i64 er, .int .u64 0]) (by simp [results, Tryz.results11, go_sem, hr0, hr1]) rfl ⟨v, er, by rw [resV, if_neg HE.out], w3, w2, p1, p2, p3, p4, fin _⟩

set_option maxRecDepth 100000 in
set_option maxHeartbeats 4000000 in
theorem do9_any (mb : Nat) (hv : Addr) (a b c : Int) (w : World) (Post : World → Int → Int → World → Prop) (SS : Nat → Prop) (hs2 : ¬ SS mb) (hs3 : ∀ k, SS k → k < w.heap.size)
    (hm : w.cell? ⟨mb, 0, none⟩ = some (.pointer (some hv)))
    (h : ∀ w1, Below w.heap.size w w1 → Calls Tryz.prog 71 #[.pointer (some hv), opV 9 a b c] w1 fun e w' => ∃ v er, e = .returned (.tuple #[.int .u64 v, .int .i64 er]) ∧ Post w1 v er w' ∧ Moved SS w1 w') :
    Calls Tryz.prog 11 #[.pointer (some ⟨mb, 0, none⟩), opV 9 a b c] w fun e w' => ∃ v er, e = .returned (resV v er) ∧ ∃ w1 w2, Below w.heap.size w w1 ∧ w.heap.size + 1 < w1.heap.size ∧ Post w1 v er w2 ∧ Moved SS w1 w2 ∧ Moved (fun q => q = w.heap.size + 1) w2 w' := by
  obtain ⟨X, hX⟩ : ∃ X, (w.alloc (.cells #[.int .i64 9, .int .u64 a, .int .u64 b, .int .u64 c] 36)).alloc (.cells #[.int .i64 0, .int .u64 0] 39) = X := ⟨_, rfl⟩
  have hbX : Below w.heap.size w X := by rw [← hX]; exact ((Below.refl _ _).alloc (Nat.le_refl _) _).alloc (by simp) _
  have hsz : X.heap.size = w.heap.size + 2 := by rw [← hX]; simp
  have oX : X.heap[w.heap.size]? = some (.cells #[.int .i64 9, .int .u64 a, .int .u64 b, .int .u64 c] 36 (0, 0)) := by rw [← hX]; exact heap_alloc_lt (heap_alloc_eq _ _) _
  have oR : X.heap[w.heap.size + 1]? = some (.cells #[.int .i64 0, .int .u64 0] 39 (0, 0)) := by rw [← hX]; simpa using heap_alloc_eq (w.alloc (.cells #[.int .i64 9, .int .u64 a, .int .u64 b, .int .u64 c] 36)) (.cells #[.int .i64 0, .int .u64 0] 39)
  have k0 := heap_cell oX 0
  have k1 := heap_cell oX 1
  have k2 := heap_cell oX 2
  have k3 := heap_cell oX 3
  simp at k0 k1 k2 k3
  have HX := Lib.hid (And.intro hbX (And.intro hsz (And.intro oX oR)))
  have HH := Lib.hid h
  have HS := Lib.hid (And.intro hs2 hs3)
  clear h hbX hsz oX oR hs2 hs3
  go_enter Tryz.func11, Tryz.ntmps11
  go_wp2_with fail
  try rw [hX]
  go_wp2_with fail
  have hix : ∀ (b1 b3 b6 b7 b8 b9 b10 b11 b12 b13 b14 b15 : Nat) (w : World), (Instr.index 94 (.agg #[.nilFunc, clV 100 b1, fnV 59, clV 105 b3, fnV 63, fnV 64, clV 105 b6, clV 100 b7, clV 105 b8, clV 100 b9, clV 105 b10, clV 105 b11, clV 105 b12, clV 100 b13, clV 100 b14, clV 100 b15]) (.int .i64 9)).run Tryz.prog w = .ok (.agg #[clV 100 b9]) w := fun _ _ _ _ _ _ _ _ _ _ _ _ w => by kernel_rfl
  have hfl : ∀ (g : Nat) (w : World), (Instr.field 93 (.agg #[clV 100 g]) 0).run Tryz.prog w = .ok (clV 100 g) w := fun g w => by kernel_rfl
  have HA := fun n => (actions_any (X.drewN n)).mono (R' := fun e w1 => ∃ b1 b3 b6 b7 b8 b9 b10 b11 b12 b13 b14 b15 : Nat, e = .returned (.agg #[.nilFunc, clV 100 b1, fnV 59, clV 105 b3, fnV 63, fnV 64, clV 105 b6, clV 100 b7, clV 105 b8, clV 100 b9, clV 105 b10, clV 105 b11, clV 105 b12, clV 100 b13, clV 100 b14, clV 100 b15]) ∧ Below w.heap.size w w1 ∧ DoK w 9 a b c w1 ∧ w1.cell? ⟨b9, 0, none⟩ = some (fnV 71) ∧ w.heap.size < b9) (fun e w1 ⟨b1, b3, b6, b7, b8, b9, b10, b11, b12, b13, b14, b15, he, hb, ⟨g1, l1⟩, ⟨g3, l3⟩, ⟨g6, l6⟩, ⟨g7, l7⟩, ⟨g8, l8⟩, ⟨g9, l9⟩, ⟨g10, l10⟩, ⟨g11, l11⟩, ⟨g12, l12⟩, ⟨g13, l13⟩, ⟨g14, l14⟩, ⟨g15, l15⟩⟩ => ⟨b1, b3, b6, b7, b8, b9, b10, b11, b12, b13, b14, b15, he, HX.out.1.trans ((show Below X.heap.size X w1 from ⟨hb.os, hb.tape, hb.output, hb.size, hb.block⟩).mono HX.out.1.size), (⟨k0, k1, k2, k3, HX.out.2.2.2⟩ : DoK w 9 a b c X).moved (Moved.of_below (show Below X.heap.size X w1 from ⟨hb.os, hb.tape, hb.output, hb.size, hb.block⟩) (fun _ => False)) (fun _ e => e.elim), g9, by have := HX.out.2.1; simp at l9; omega⟩)
  have HCL : ∀ (w1 : World) (g : Nat), Below w.heap.size w w1 → DoK w 9 a b c w1 → w1.cell? ⟨g, 0, none⟩ = some (fnV 71) ∧ w.heap.size < g → Calls Tryz.prog 100 #[.pointer (some ⟨mb, 0, none⟩), opV 9 a b c, .pointer (some ⟨g, 0, none⟩)] w1 fun e w2 => ∃ v er, e = .returned (.tuple #[.int .u64 v, .int .i64 er]) ∧ DoP w 9 a b c SS Post v er w2 := by
    intro w1 g hb hk ⟨hg, hl⟩
    refine (some1_any 71 g mb hv 9 a b c w1 Post (fun args w => rfl) hg ((hb.cell (cell_lt hm)).trans hm) SS (fun e => by have := HS.out.2 _ e; omega) HS.out.1 (fun e => by have := HS.out.2 _ e; have := hk.sz; omega) (fun w2 hb2 => HH.out w2 (hb.trans (hb2.mono hb.size)))).mono ?_
    rintro e w2 ⟨v, er, rfl, w3, hb3, hP, hM⟩
    exact ⟨v, er, rfl, w3, hb.trans (hb3.mono hb.size), by have := hk.sz; have := hb3.size; omega, hP, hM, (hk.moved (Moved.of_below hb3 (fun _ => False)) (fun _ e => e.elim)).moved hM HS.out.2⟩
  have HCL := Lib.hid HCL
  have HA := Lib.hid HA
  have HA0 := HA.out
  clear HA HH hm
  go_region_held3 (fun w' => w'.cell? ⟨w.heap.size, 0, none⟩ = some (.int .i64 9) ∧ w'.cell? ⟨w.heap.size, 1, none⟩ = some (.int .u64 a) ∧ w'.cell? ⟨w.heap.size, 2, none⟩ = some (.int .u64 b) ∧ w'.cell? ⟨w.heap.size, 3, none⟩ = some (.int .u64 c)) (first | exact ⟨HK.out.2.c0, HK.out.2.c1, HK.out.2.c2, HK.out.2.c3⟩ | exact ⟨HP.out.2.c0, HP.out.2.c1, HP.out.2.c2, HP.out.2.c3⟩ | go_keep) (first | (go_at_call 29; refine (HA0 _).mono ?_; rintro e w1 ⟨b1, b3, b6, b7, b8, b9, b10, b11, b12, b13, b14, b15, rfl, hb1, hk1, hg1, hl1⟩; have HK := Lib.hid (And.intro hb1 hk1); clear hb1 hk1) | (go_at_call 100; refine (HCL.out _ _ HK.out.1 HK.out.2 ⟨hg1, hl1⟩).mono ?_; rintro e w2 ⟨v, er, rfl, hP⟩; have HP := Lib.hid (And.intro hP hP.dok); clear hP))
  all_goals
    have hr0 := heap_cell HP.out.2.r 0
    have hr1 := heap_cell HP.out.2.r 1
    have hf0 := heap_free HP.out.2.r 0
    have hf1 := heap_free HP.out.2.r 1
    simp at hr0 hr1
    have fin : ∀ x : Int, Moved (fun q => q = w.heap.size + 1) w2 ((w2.setCell ⟨w.heap.size + 1, 0, none⟩ (.int .i64 er)).setCell ⟨w.heap.size + 1, 1, none⟩ (.int .u64 x)) := fun x => Moved.of_grown (grown_trans (grown_set _ _ _ _) (grown_set _ _ _ _)) (fun k e => by cases e; rfl)
    obtain ⟨w3, p1, p2, p3, p4, _⟩ := HP.out.1
    by_cases he : er = 0
    · have he2 : (er != 0) = false := by simp [he]
      have HE := Lib.hid he
      clear he
      go_wp2
      exact bodyPost_ret (v := .agg #[.int .i64 er, .int .u64 v]) (by simp [results, Tryz.results11, go_sem, hr0, hr1]) rfl ⟨v, er, by rw [resV, if_pos HE.out], w3, w2, p1, p2, p3, p4, fin _⟩
    · have he2 : (er != 0) = true := by simp [he]
      have HE := Lib.hid he
      clear he
      go_wp2
      exact bodyPost_ret (v := .agg #[.int .i64 er, .int .u64 0]) (by simp [results, Tryz.results11, go_sem, hr0, hr1]) rfl ⟨v, er, by rw [resV, if_neg HE.out], w3, w2, p1, p2, p3, p4, fin _⟩

set_option maxRecDepth 100000 in
set_option maxHeartbeats 4000000 in
theorem do10_any (mb : Nat) (hv : Addr) (a b c : Int) (w : World) (Post : World → Int → Int → World → Prop) (SS : Nat → Prop) (hs2 : ¬ SS mb) (hs3 : ∀ k, SS k → k < w.heap.size)
    (hm : w.cell? ⟨mb, 0, none⟩ = some (.pointer (some hv)))
    (h : ∀ w1, Below w.heap.size w w1 → Calls Tryz.prog 73 #[.pointer (some hv), opV 10 a b c] w1 fun e w' => ∃ er, e = .returned (.int .i64 er) ∧ Post w1 0 er w' ∧ Moved SS w1 w') :
    Calls Tryz.prog 11 #[.pointer (some ⟨mb, 0, none⟩), opV 10 a b c] w fun e w' => ∃ v er, e = .returned (resV v er) ∧ ∃ w1 w2, Below w.heap.size w w1 ∧ w.heap.size + 1 < w1.heap.size ∧ Post w1 v er w2 ∧ Moved SS w1 w2 ∧ Moved (fun q => q = w.heap.size + 1) w2 w' := by
  obtain ⟨X, hX⟩ : ∃ X, (w.alloc (.cells #[.int .i64 10, .int .u64 a, .int .u64 b, .int .u64 c] 36)).alloc (.cells #[.int .i64 0, .int .u64 0] 39) = X := ⟨_, rfl⟩
  have hbX : Below w.heap.size w X := by rw [← hX]; exact ((Below.refl _ _).alloc (Nat.le_refl _) _).alloc (by simp) _
  have hsz : X.heap.size = w.heap.size + 2 := by rw [← hX]; simp
  have oX : X.heap[w.heap.size]? = some (.cells #[.int .i64 10, .int .u64 a, .int .u64 b, .int .u64 c] 36 (0, 0)) := by rw [← hX]; exact heap_alloc_lt (heap_alloc_eq _ _) _
  have oR : X.heap[w.heap.size + 1]? = some (.cells #[.int .i64 0, .int .u64 0] 39 (0, 0)) := by rw [← hX]; simpa using heap_alloc_eq (w.alloc (.cells #[.int .i64 10, .int .u64 a, .int .u64 b, .int .u64 c] 36)) (.cells #[.int .i64 0, .int .u64 0] 39)
  have k0 := heap_cell oX 0
  have k1 := heap_cell oX 1
  have k2 := heap_cell oX 2
  have k3 := heap_cell oX 3
  simp at k0 k1 k2 k3
  have HX := Lib.hid (And.intro hbX (And.intro hsz (And.intro oX oR)))
  have HH := Lib.hid h
  have HS := Lib.hid (And.intro hs2 hs3)
  clear h hbX hsz oX oR hs2 hs3
  go_enter Tryz.func11, Tryz.ntmps11
  go_wp2_with fail
  try rw [hX]
  go_wp2_with fail
  have hix : ∀ (b1 b3 b6 b7 b8 b9 b10 b11 b12 b13 b14 b15 : Nat) (w : World), (Instr.index 94 (.agg #[.nilFunc, clV 100 b1, fnV 59, clV 105 b3, fnV 63, fnV 64, clV 105 b6, clV 100 b7, clV 105 b8, clV 100 b9, clV 105 b10, clV 105 b11, clV 105 b12, clV 100 b13, clV 100 b14, clV 100 b15]) (.int .i64 10)).run Tryz.prog w = .ok (.agg #[clV 105 b10]) w := fun _ _ _ _ _ _ _ _ _ _ _ _ w => by kernel_rfl
  have hfl : ∀ (g : Nat) (w : World), (Instr.field 93 (.agg #[clV 105 g]) 0).run Tryz.prog w = .ok (clV 105 g) w := fun g w => by kernel_rfl
  have HA := fun n => (actions_any (X.drewN n)).mono (R' := fun e w1 => ∃ b1 b3 b6 b7 b8 b9 b10 b11 b12 b13 b14 b15 : Nat, e = .returned (.agg #[.nilFunc, clV 100 b1, fnV 59, clV 105 b3, fnV 63, fnV 64, clV 105 b6, clV 100 b7, clV 105 b8, clV 100 b9, clV 105 b10, clV 105 b11, clV 105 b12, clV 100 b13, clV 100 b14, clV 100 b15]) ∧ Below w.heap.size w w1 ∧ DoK w 10 a b c w1 ∧ w1.cell? ⟨b10, 0, none⟩ = some (fnV 73) ∧ w.heap.size < b10) (fun e w1 ⟨b1, b3, b6, b7, b8, b9, b10, b11, b12, b13, b14, b15, he, hb, ⟨g1, l1⟩, ⟨g3, l3⟩, ⟨g6, l6⟩, ⟨g7, l7⟩, ⟨g8, l8⟩, ⟨g9, l9⟩, ⟨g10, l10⟩, ⟨g11, l11⟩, ⟨g12, l12⟩, ⟨g13, l13⟩, ⟨g14, l14⟩, ⟨g15, l15⟩⟩ => ⟨b1, b3, b6, b7, b8, b9, b10, b11, b12, b13, b14, b15, he, HX.out.1.trans ((show Below X.heap.size X w1 from ⟨hb.os, hb.tape, hb.output, hb.size, hb.block⟩).mono HX.out.1.size), (⟨k0, k1, k2, k3, HX.out.2.2.2⟩ : DoK w 10 a b c X).moved (Moved.of_below (show Below X.heap.size X w1 from ⟨hb.os, hb.tape, hb.output, hb.size, hb.block⟩) (fun _ => False)) (fun _ e => e.elim), g10, by have := HX.out.2.1; simp at l10; omega⟩)
  have HCL : ∀ (w1 : World) (g : Nat), Below w.heap.size w w1 → DoK w 10 a b c w1 → w1.cell? ⟨g, 0, none⟩ = some (fnV 73) ∧ w.heap.size < g → Calls Tryz.prog 105 #[.pointer (some ⟨mb, 0, none⟩), opV 10 a b c, .pointer (some ⟨g, 0, none⟩)] w1 fun e w2 => ∃ v er, e = .returned (.tuple #[.int .u64 v, .int .i64 er]) ∧ DoP w 10 a b c SS Post v er w2 := by
    intro w1 g hb hk ⟨hg, hl⟩
    refine (none1_any 73 g mb hv 10 a b c w1 Post (fun args w => rfl) hg ((hb.cell (cell_lt hm)).trans hm) SS (fun e => by have := HS.out.2 _ e; omega) HS.out.1 (fun e => by have := HS.out.2 _ e; have := hk.sz; omega) (fun w2 hb2 => HH.out w2 (hb.trans (hb2.mono hb.size)))).mono ?_
    rintro e w2 ⟨v, er, rfl, w3, hb3, hP, hM⟩
    exact ⟨v, er, rfl, w3, hb.trans (hb3.mono hb.size), by have := hk.sz; have := hb3.size; omega, hP, hM, (hk.moved (Moved.of_below hb3 (fun _ => False)) (fun _ e => e.elim)).moved hM HS.out.2⟩
  have HCL := Lib.hid HCL
  have HA := Lib.hid HA
  have HA0 := HA.out
  clear HA HH hm
  go_region_held3 (fun w' => w'.cell? ⟨w.heap.size, 0, none⟩ = some (.int .i64 10) ∧ w'.cell? ⟨w.heap.size, 1, none⟩ = some (.int .u64 a) ∧ w'.cell? ⟨w.heap.size, 2, none⟩ = some (.int .u64 b) ∧ w'.cell? ⟨w.heap.size, 3, none⟩ = some (.int .u64 c)) (first | exact ⟨HK.out.2.c0, HK.out.2.c1, HK.out.2.c2, HK.out.2.c3⟩ | exact ⟨HP.out.2.c0, HP.out.2.c1, HP.out.2.c2, HP.out.2.c3⟩ | go_keep) (first | (go_at_call 29; refine (HA0 _).mono ?_; rintro e w1 ⟨b1, b3, b6, b7, b8, b9, b10, b11, b12, b13, b14, b15, rfl, hb1, hk1, hg1, hl1⟩; have HK := Lib.hid (And.intro hb1 hk1); clear hb1 hk1) | (go_at_call 105; refine (HCL.out _ _ HK.out.1 HK.out.2 ⟨hg1, hl1⟩).mono ?_; rintro e w2 ⟨v, er, rfl, hP⟩; have HP := Lib.hid (And.intro hP hP.dok); clear hP))
  all_goals
    have hr0 := heap_cell HP.out.2.r 0
    have hr1 := heap_cell HP.out.2.r 1
    have hf0 := heap_free HP.out.2.r 0
    have hf1 := heap_free HP.out.2.r 1
    simp at hr0 hr1
    have fin : ∀ x : Int, Moved (fun q => q = w.heap.size + 1) w2 ((w2.setCell ⟨w.heap.size + 1, 0, none⟩ (.int .i64 er)).setCell ⟨w.heap.size + 1, 1, none⟩ (.int .u64 x)) := fun x => Moved.of_grown (grown_trans (grown_set _ _ _ _) (grown_set _ _ _ _)) (fun k e => by cases e; rfl)
    obtain ⟨w3, p1, p2, p3, p4, _⟩ := HP.out.1
    by_cases he : er = 0
    · have he2 : (er != 0) = false := by simp [he]
      have HE := Lib.hid he
      clear he
      go_wp2
      exact bodyPost_ret (v := .agg #[.int .i64 er, .int .u64 v]) (by simp [results, Tryz.results11, go_sem, hr0, hr1]) rfl ⟨v, er, by rw [resV, if_pos HE.out], w3, w2, p1, p2, p3, p4, fin _⟩
    · have he2 : (er != 0) = true := by simp [he]
      have HE := Lib.hid he
      clear he
      go_wp2
      exact bodyPost_ret (v := .agg #[.int .i64 er, .int .u64 0]) (by simp [results, Tryz.results11, go_sem, hr0, hr1]) rfl ⟨v, er, by rw [resV, if_neg HE.out], w3, w2, p1, p2, p3, p4, fin _⟩

set_option maxRecDepth 100000 in
set_option maxHeartbeats 4000000 in
theorem do11_any (mb : Nat) (hv : Addr) (a b c : Int) (w : World) (Post : World → Int → Int → World → Prop) (SS : Nat → Prop) (hs2 : ¬ SS mb) (hs3 : ∀ k, SS k → k < w.heap.size)
    (hm : w.cell? ⟨mb, 0, none⟩ = some (.pointer (some hv)))
    (h : ∀ w1, Below w.heap.size w w1 → Calls Tryz.prog 75 #[.pointer (some hv), opV 11 a b c] w1 fun e w' => ∃ er, e = .returned (.int .i64 er) ∧ Post w1 0 er w' ∧ Moved SS w1 w') :
    Calls Tryz.prog 11 #[.pointer (some ⟨mb, 0, none⟩), opV 11 a b c] w fun e w' => ∃ v er, e = .returned (resV v er) ∧ ∃ w1 w2, Below w.heap.size w w1 ∧ w.heap.size + 1 < w1.heap.size ∧ Post w1 v er w2 ∧ Moved SS w1 w2 ∧ Moved (fun q => q = w.heap.size + 1) w2 w' := by
  obtain ⟨X, hX⟩ : ∃ X, (w.alloc (.cells #[.int .i64 11, .int .u64 a, .int .u64 b, .int .u64 c] 36)).alloc (.cells #[.int .i64 0, .int .u64 0] 39) = X := ⟨_, rfl⟩
  have hbX : Below w.heap.size w X := by rw [← hX]; exact ((Below.refl _ _).alloc (Nat.le_refl _) _).alloc (by simp) _
  have hsz : X.heap.size = w.heap.size + 2 := by rw [← hX]; simp
  have oX : X.heap[w.heap.size]? = some (.cells #[.int .i64 11, .int .u64 a, .int .u64 b, .int .u64 c] 36 (0, 0)) := by rw [← hX]; exact heap_alloc_lt (heap_alloc_eq _ _) _
  have oR : X.heap[w.heap.size + 1]? = some (.cells #[.int .i64 0, .int .u64 0] 39 (0, 0)) := by rw [← hX]; simpa using heap_alloc_eq (w.alloc (.cells #[.int .i64 11, .int .u64 a, .int .u64 b, .int .u64 c] 36)) (.cells #[.int .i64 0, .int .u64 0] 39)
  have k0 := heap_cell oX 0
  have k1 := heap_cell oX 1
  have k2 := heap_cell oX 2
  have k3 := heap_cell oX 3
  simp at k0 k1 k2 k3
  have HX := Lib.hid (And.intro hbX (And.intro hsz (And.intro oX oR)))
  have HH := Lib.hid h
  have HS := Lib.hid (And.intro hs2 hs3)
  clear h hbX hsz oX oR hs2 hs3
  go_enter Tryz.func11, Tryz.ntmps11
  go_wp2_with fail
  try rw [hX]
  go_wp2_with fail
  have hix : ∀ (b1 b3 b6 b7 b8 b9 b10 b11 b12 b13 b14 b15 : Nat) (w : World), (Instr.index 94 (.agg #[.nilFunc, clV 100 b1, fnV 59, clV 105 b3, fnV 63, fnV 64, clV 105 b6, clV 100 b7, clV 105 b8, clV 100 b9, clV 105 b10, clV 105 b11, clV 105 b12, clV 100 b13, clV 100 b14, clV 100 b15]) (.int .i64 11)).run Tryz.prog w = .ok (.agg #[clV 105 b11]) w := fun _ _ _ _ _ _ _ _ _ _ _ _ w => by kernel_rfl
  have hfl : ∀ (g : Nat) (w : World), (Instr.field 93 (.agg #[clV 105 g]) 0).run Tryz.prog w = .ok (clV 105 g) w := fun g w => by kernel_rfl
  have HA := fun n => (actions_any (X.drewN n)).mono (R' := fun e w1 => ∃ b1 b3 b6 b7 b8 b9 b10 b11 b12 b13 b14 b15 : Nat, e = .returned (.agg #[.nilFunc, clV 100 b1, fnV 59, clV 105 b3, fnV 63, fnV 64, clV 105 b6, clV 100 b7, clV 105 b8, clV 100 b9, clV 105 b10, clV 105 b11, clV 105 b12, clV 100 b13, clV 100 b14, clV 100 b15]) ∧ Below w.heap.size w w1 ∧ DoK w 11 a b c w1 ∧ w1.cell? ⟨b11, 0, none⟩ = some (fnV 75) ∧ w.heap.size < b11) (fun e w1 ⟨b1, b3, b6, b7, b8, b9, b10, b11, b12, b13, b14, b15, he, hb, ⟨g1, l1⟩, ⟨g3, l3⟩, ⟨g6, l6⟩, ⟨g7, l7⟩, ⟨g8, l8⟩, ⟨g9, l9⟩, ⟨g10, l10⟩, ⟨g11, l11⟩, ⟨g12, l12⟩, ⟨g13, l13⟩, ⟨g14, l14⟩, ⟨g15, l15⟩⟩ => ⟨b1, b3, b6, b7, b8, b9, b10, b11, b12, b13, b14, b15, he, HX.out.1.trans ((show Below X.heap.size X w1 from ⟨hb.os, hb.tape, hb.output, hb.size, hb.block⟩).mono HX.out.1.size), (⟨k0, k1, k2, k3, HX.out.2.2.2⟩ : DoK w 11 a b c X).moved (Moved.of_below (show Below X.heap.size X w1 from ⟨hb.os, hb.tape, hb.output, hb.size, hb.block⟩) (fun _ => False)) (fun _ e => e.elim), g11, by have := HX.out.2.1; simp at l11; omega⟩)
  have HCL : ∀ (w1 : World) (g : Nat), Below w.heap.size w w1 → DoK w 11 a b c w1 → w1.cell? ⟨g, 0, none⟩ = some (fnV 75) ∧ w.heap.size < g → Calls Tryz.prog 105 #[.pointer (some ⟨mb, 0, none⟩), opV 11 a b c, .pointer (some ⟨g, 0, none⟩)] w1 fun e w2 => ∃ v er, e = .returned (.tuple #[.int .u64 v, .int .i64 er]) ∧ DoP w 11 a b c SS Post v er w2 := by
    intro w1 g hb hk ⟨hg, hl⟩
    refine (none1_any 75 g mb hv 11 a b c w1 Post (fun args w => rfl) hg ((hb.cell (cell_lt hm)).trans hm) SS (fun e => by have := HS.out.2 _ e; omega) HS.out.1 (fun e => by have := HS.out.2 _ e; have := hk.sz; omega) (fun w2 hb2 => HH.out w2 (hb.trans (hb2.mono hb.size)))).mono ?_
    rintro e w2 ⟨v, er, rfl, w3, hb3, hP, hM⟩
    exact ⟨v, er, rfl, w3, hb.trans (hb3.mono hb.size), by have := hk.sz; have := hb3.size; omega, hP, hM, (hk.moved (Moved.of_below hb3 (fun _ => False)) (fun _ e => e.elim)).moved hM HS.out.2⟩
  have HCL := Lib.hid HCL
  have HA := Lib.hid HA
  have HA0 := HA.out
  clear HA HH hm
  go_region_held3 (fun w' => w'.cell? ⟨w.heap.size, 0, none⟩ = some (.int .i64 11) ∧ w'.cell? ⟨w.heap.size, 1, none⟩ = some (.int .u64 a) ∧ w'.cell? ⟨w.heap.size, 2, none⟩ = some (.int .u64 b) ∧ w'.cell? ⟨w.heap.size, 3, none⟩ = some (.int .u64 c)) (first | exact ⟨HK.out.2.c0, HK.out.2.c1, HK.out.2.c2, HK.out.2.c3⟩ | exact ⟨HP.out.2.c0, HP.out.2.c1, HP.out.2.c2, HP.out.2.c3⟩ | go_keep) (first | (go_at_call 29; refine (HA0 _).mono ?_; rintro e w1 ⟨b1, b3, b6, b7, b8, b9, b10, b11, b12, b13, b14, b15, rfl, hb1, hk1, hg1, hl1⟩; have HK := Lib.hid (And.intro hb1 hk1); clear hb1 hk1) | (go_at_call 105; refine (HCL.out _ _ HK.out.1 HK.out.2 ⟨hg1, hl1⟩).mono ?_; rintro e w2 ⟨v, er, rfl, hP⟩; have HP := Lib.hid (And.intro hP hP.dok); clear hP))
  all_goals
    have hr0 := heap_cell HP.out.2.r 0
    have hr1 := heap_cell HP.out.2.r 1
    have hf0 := heap_free HP.out.2.r 0
    have hf1 := heap_free HP.out.2.r 1
    simp at hr0 hr1
    have fin : ∀ x : Int, Moved (fun q => q = w.heap.size + 1) w2 ((w2.setCell ⟨w.heap.size + 1, 0, none⟩ (.int .i64 er)).setCell ⟨w.heap.size + 1, 1, none⟩ (.int .u64 x)) := fun x => Moved.of_grown (grown_trans (grown_set _ _ _ _) (grown_set _ _ _ _)) (fun k e => by cases e; rfl)
    obtain ⟨w3, p1, p2, p3, p4, _⟩ := HP.out.1
    by_cases he : er = 0
    · have he2 : (er != 0) = false := by simp [he]
      have HE := Lib.hid he
      clear he
      go_wp2
      exact bodyPost_ret (v := .agg #[.int .i64 er, .int .u64 v]) (by simp [results, Tryz.results11, go_sem, hr0, hr1]) rfl ⟨v, er, by rw [resV, if_pos HE.out], w3, w2, p1, p2, p3, p4, fin _⟩
    · have he2 : (er != 0) = true := by simp [he]
      have HE := Lib.hid he
      clear he
      go_wp2
      exact bodyPost_ret (v := .agg #[.int .i64 er, .int .u64 0]) (by simp [results, Tryz.results11, go_sem, hr0, hr1]) rfl ⟨v, er, by rw [resV, if_neg HE.out], w3, w2, p1, p2, p3, p4, fin _⟩

set_option maxRecDepth 100000 in
set_option maxHeartbeats 4000000 in
theorem do12_any (mb : Nat) (hv : Addr) (a b c : Int) (w : World) (Post : World → Int → Int → World → Prop) (SS : Nat → Prop) (hs2 : ¬ SS mb) (hs3 : ∀ k, SS k → k < w.heap.size)
    (hm : w.cell? ⟨mb, 0, none⟩ = some (.pointer (some hv)))
    (h : ∀ w1, Below w.heap.size w w1 → Calls Tryz.prog 77 #[.pointer (some hv), opV 12 a b c] w1 fun e w' => ∃ er, e = .returned (.int .i64 er) ∧ Post w1 0 er w' ∧ Moved SS w1 w') :
    Calls Tryz.prog 11 #[.pointer (some ⟨mb, 0, none⟩), opV 12 a b c] w fun e w' => ∃ v er, e = .returned (resV v er) ∧ ∃ w1 w2, Below w.heap.size w w1 ∧ w.heap.size + 1 < w1.heap.size ∧ Post w1 v er w2 ∧ Moved SS w1 w2 ∧ Moved (fun q => q = w.heap.size + 1) w2 w' := by
  obtain ⟨X, hX⟩ : ∃ X, (w.alloc (.cells #[.int .i64 12, .int .u64 a, .int .u64 b, .int .u64 c] 36)).alloc (.cells #[.int .i64 0, .int .u64 0] 39) = X := ⟨_, rfl⟩
  have hbX : Below w.heap.size w X := by rw [← hX]; exact ((Below.refl _ _).alloc (Nat.le_refl _) _).alloc (by simp) _
  have hsz : X.heap.size = w.heap.size + 2 := by rw [← hX]; simp
  have oX : X.heap[w.heap.size]? = some (.cells #[.int .i64 12, .int .u64 a, .int .u64 b, .int .u64 c] 36 (0, 0)) := by rw [← hX]; exact heap_alloc_lt (heap_alloc_eq _ _) _
  have oR : X.heap[w.heap.size + 1]? = some (.cells #[.int .i64 0, .int .u64 0] 39 (0, 0)) := by rw [← hX]; simpa using heap_alloc_eq (w.alloc (.cells #[.int .i64 12, .int .u64 a, .int .u64 b, .int .u64 c] 36)) (.cells #[.int .i64 0, .int .u64 0] 39)
  have k0 := heap_cell oX 0
  have k1 := heap_cell oX 1
  have k2 := heap_cell oX 2
  have k3 := heap_cell oX 3
  simp at k0 k1 k2 k3
  have HX := Lib.hid (And.intro hbX (And.intro hsz (And.intro oX oR)))
  have HH := Lib.hid h
  have HS := Lib.hid (And.intro hs2 hs3)
  clear h hbX hsz oX oR hs2 hs3
  go_enter Tryz.func11, Tryz.ntmps11
  go_wp2_with fail
  try rw [hX]
  go_wp2_with fail
  have hix : ∀ (b1 b3 b6 b7 b8 b9 b10 b11 b12 b13 b14 b15 : Nat) (w : World), (Instr.index 94 (.agg #[.nilFunc, clV 100 b1, fnV 59, clV 105 b3, fnV 63, fnV 64, clV 105 b6, clV 100 b7, clV 105 b8, clV 100 b9, clV 105 b10, clV 105 b11, clV 105 b12, clV 100 b13, clV 100 b14, clV 100 b15]) (.int .i64 12)).run Tryz.prog w = .ok (.agg #[clV 105 b12]) w := fun _ _ _ _ _ _ _ _ _ _ _ _ w => by kernel_rfl
  have hfl : ∀ (g : Nat) (w : World), (Instr.field 93 (.agg #[clV 105 g]) 0).run Tryz.prog w = .ok (clV 105 g) w := fun g w => by kernel_rfl
  have HA := fun n => (actions_any (X.drewN n)).mono (R' := fun e w1 => ∃ b1 b3 b6 b7 b8 b9 b10 b11 b12 b13 b14 b15 : Nat, e = .returned (.agg #[.nilFunc, clV 100 b1, fnV 59, clV 105 b3, fnV 63, fnV 64, clV 105 b6, clV 100 b7, clV 105 b8, clV 100 b9, clV 105 b10, clV 105 b11, clV 105 b12, clV 100 b13, clV 100 b14, clV 100 b15]) ∧ Below w.heap.size w w1 ∧ DoK w 12 a b c w1 ∧ w1.cell? ⟨b12, 0, none⟩ = some (fnV 77) ∧ w.heap.size < b12) (fun e w1 ⟨b1, b3, b6, b7, b8, b9, b10, b11, b12, b13, b14, b15, he, hb, ⟨g1, l1⟩, ⟨g3, l3⟩, ⟨g6, l6⟩, ⟨g7, l7⟩, ⟨g8, l8⟩, ⟨g9, l9⟩, ⟨g10, l10⟩, ⟨g11, l11⟩, ⟨g12, l12⟩, ⟨g13, l13⟩, ⟨g14, l14⟩, ⟨g15, l15⟩⟩ => ⟨b1, b3, b6, b7, b8, b9, b10, b11, b12, b13, b14, b15, he, HX.out.1.trans ((show Below X.heap.size X w1 from ⟨hb.os, hb.tape, hb.output, hb.size, hb.block⟩).mono HX.out.1.size), (⟨k0, k1, k2, k3, HX.out.2.2.2⟩ : DoK w 12 a b c X).moved (Moved.of_below (show Below X.heap.size X w1 from ⟨hb.os, hb.tape, hb.output, hb.size, hb.block⟩) (fun _ => False)) (fun _ e => e.elim), g12, by have := HX.out.2.1; simp at l12; omega⟩)
  have HCL : ∀ (w1 : World) (g : Nat), Below w.heap.size w w1 → DoK w 12 a b c w1 → w1.cell? ⟨g, 0, none⟩ = some (fnV 77) ∧ w.heap.size < g → Calls Tryz.prog 105 #[.pointer (some ⟨mb, 0, none⟩), opV 12 a b c, .pointer (some ⟨g, 0, none⟩)] w1 fun e w2 => ∃ v er, e = .returned (.tuple #[.int .u64 v, .int .i64 er]) ∧ DoP w 12 a b c SS Post v er w2 := by
    intro w1 g hb hk ⟨hg, hl⟩
    refine (none1_any 77 g mb hv 12 a b c w1 Post (fun args w => rfl) hg ((hb.cell (cell_lt hm)).trans hm) SS (fun e => by have := HS.out.2 _ e; omega) HS.out.1 (fun e => by have := HS.out.2 _ e; have := hk.sz; omega) (fun w2 hb2 => HH.out w2 (hb.trans (hb2.mono hb.size)))).mono ?_
    rintro e w2 ⟨v, er, rfl, w3, hb3, hP, hM⟩
    exact ⟨v, er, rfl, w3, hb.trans (hb3.mono hb.size), by have := hk.sz; have := hb3.size; omega, hP, hM, (hk.moved (Moved.of_below hb3 (fun _ => False)) (fun _ e => e.elim)).moved hM HS.out.2⟩
  have HCL := Lib.hid HCL
  have HA := Lib.hid HA
  have HA0 := HA.out
  clear HA HH hm
  go_region_held3 (fun w' => w'.cell? ⟨w.heap.size, 0, none⟩ = some (.int .i64 12) ∧ w'.cell? ⟨w.heap.size, 1, none⟩ = some (.int .u64 a) ∧ w'.cell? ⟨w.heap.size, 2, none⟩ = some (.int .u64 b) ∧ w'.cell? ⟨w.heap.size, 3, none⟩ = some (.int .u64 c)) (first | exact ⟨HK.out.2.c0, HK.out.2.c1, HK.out.2.c2, HK.out.2.c3⟩ | exact ⟨HP.out.2.c0, HP.out.2.c1, HP.out.2.c2, HP.out.2.c3⟩ | go_keep) (first | (go_at_call 29; refine (HA0 _).mono ?_; rintro e w1 ⟨b1, b3, b6, b7, b8, b9, b10, b11, b12, b13, b14, b15, rfl, hb1, hk1, hg1, hl1⟩; have HK := Lib.hid (And.intro hb1 hk1); clear hb1 hk1) | (go_at_call 105; refine (HCL.out _ _ HK.out.1 HK.out.2 ⟨hg1, hl1⟩).mono ?_; rintro e w2 ⟨v, er, rfl, hP⟩; have HP := Lib.hid (And.intro hP hP.dok); clear hP))
  all_goals
    have hr0 := heap_cell HP.out.2.r 0
    have hr1 := heap_cell HP.out.2.r 1
    have hf0 := heap_free HP.out.2.r 0
    have hf1 := heap_free HP.out.2.r 1
    simp at hr0 hr1
    have fin : ∀ x : Int, Moved (fun q => q = w.heap.size + 1) w2 ((w2.setCell ⟨w.heap.size + 1, 0, none⟩ (.int .i64 er)).setCell ⟨w.heap.size + 1, 1, none⟩ (.int .u64 x)) := fun x => Moved.of_grown (grown_trans (grown_set _ _ _ _) (grown_set _ _ _ _)) (fun k e => by cases e; rfl)
    obtain ⟨w3, p1, p2, p3, p4, _⟩ := HP.out.1
    by_cases he : er = 0
    · have he2 : (er != 0) = false := by simp [he]
      have HE := Lib.hid he
      clear he
      go_wp2
      exact bodyPost_ret (v := .agg #[.int .i64 er, .int .u64 v]) (by simp [results, Tryz.results11, go_sem, hr0, hr1]) rfl ⟨v, er, by rw [resV, if_pos HE.out], w3, w2, p1, p2, p3, p4, fin _⟩
    · have he2 : (er != 0) = true := by simp [he]
      have HE := Lib.hid he
      clear he
      go_wp2
      exact bodyPost_ret (v := .agg #[.int .i64 er, .int .u64 0]) (by simp [results, Tryz.results11, go_sem, hr0, hr1]) rfl ⟨v, er, by rw [resV, if_neg HE.out], w3, w2, p1, p2, p3, p4, fin _⟩

set_option maxRecDepth 100000 in
set_option maxHeartbeats 4000000 in
theorem do13_any (mb : Nat) (hv : Addr) (a b c : Int) (w : World) (Post : World → Int → Int → World → Prop) (SS : Nat → Prop) (hs2 : ¬ SS mb) (hs3 : ∀ k, SS k → k < w.heap.size)
    (hm : w.cell? ⟨mb, 0, none⟩ = some (.pointer (some hv)))
    (h : ∀ w1, Below w.heap.size w w1 → Calls Tryz.prog 79 #[.pointer (some hv), opV 13 a b c] w1 fun e w' => ∃ v er, e = .returned (.tuple #[.int .u64 v, .int .i64 er]) ∧ Post w1 v er w' ∧ Moved SS w1 w') :
    Calls Tryz.prog 11 #[.pointer (some ⟨mb, 0, none⟩), opV 13 a b c] w fun e w' => ∃ v er, e = .returned (resV v er) ∧ ∃ w1 w2, Below w.heap.size w w1 ∧ w.heap.size + 1 < w1.heap.size ∧ Post w1 v er w2 ∧ Moved SS w1 w2 ∧ Moved (fun q => q = w.heap.size + 1) w2 w' := by
  obtain ⟨X, hX⟩ : ∃ X, (w.alloc (.cells #[.int .i64 13, .int .u64 a, .int .u64 b, .int .u64 c] 36)).alloc (.cells #[.int .i64 0, .int .u64 0] 39) = X := ⟨_, rfl⟩
  have hbX : Below w.heap.size w X := by rw [← hX]; exact ((Below.refl _ _).alloc (Nat.le_refl _) _).alloc (by simp) _
  have hsz : X.heap.size = w.heap.size + 2 := by rw [← hX]; simp
  have oX : X.heap[w.heap.size]? = some (.cells #[.int .i64 13, .int .u64 a, .int .u64 b, .int .u64 c] 36 (0, 0)) := by rw [← hX]; exact heap_alloc_lt (heap_alloc_eq _ _) _
  have oR : X.heap[w.heap.size + 1]? = some (.cells #[.int .i64 0, .int .u64 0] 39 (0, 0)) := by rw [← hX]; simpa using heap_alloc_eq (w.alloc (.cells #[.int .i64 13, .int .u64 a, .int .u64 b, .int .u64 c] 36)) (.cells #[.int .i64 0, .int .u64 0] 39)
  have k0 := heap_cell oX 0
  have k1 := heap_cell oX 1
  have k2 := heap_cell oX 2
  have k3 := heap_cell oX 3
  simp at k0 k1 k2 k3
  have HX := Lib.hid (And.intro hbX (And.intro hsz (And.intro oX oR)))
  have HH := Lib.hid h
  have HS := Lib.hid (And.intro hs2 hs3)
  clear h hbX hsz oX oR hs2 hs3
  go_enter Tryz.func11, Tryz.ntmps11
  go_wp2_with fail
  try rw [hX]
  go_wp2_with fail
  have hix : ∀ (b1 b3 b6 b7 b8 b9 b10 b11 b12 b13 b14 b15 : Nat) (w : World), (Instr.index 94 (.agg #[.nilFunc, clV 100 b1, fnV 59, clV 105 b3, fnV 63, fnV 64, clV 105 b6, clV 100 b7, clV 105 b8, clV 100 b9, clV 105 b10, clV 105 b11, clV 105 b12, clV 100 b13, clV 100 b14, clV 100 b15]) (.int .i64 13)).run Tryz.prog w = .ok (.agg #[clV 100 b13]) w := fun _ _ _ _ _ _ _ _ _ _ _ _ w => by kernel_rfl
  have hfl : ∀ (g : Nat) (w : World), (Instr.field 93 (.agg #[clV 100 g]) 0).run Tryz.prog w = .ok (clV 100 g) w := fun g w => by kernel_rfl
  have HA := fun n => (actions_any (X.drewN n)).mono (R' := fun e w1 => ∃ b1 b3 b6 b7 b8 b9 b10 b11 b12 b13 b14 b15 : Nat, e = .returned (.agg #[.nilFunc, clV 100 b1, fnV 59, clV 105 b3, fnV 63, fnV 64, clV 105 b6, clV 100 b7, clV 105 b8, clV 100 b9, clV 105 b10, clV 105 b11, clV 105 b12, clV 100 b13, clV 100 b14, clV 100 b15]) ∧ Below w.heap.size w w1 ∧ DoK w 13 a b c w1 ∧ w1.cell? ⟨b13, 0, none⟩ = some (fnV 79) ∧ w.heap.size < b13) (fun e w1 ⟨b1, b3, b6, b7, b8, b9, b10, b11, b12, b13, b14, b15, he, hb, ⟨g1, l1⟩, ⟨g3, l3⟩, ⟨g6, l6⟩, ⟨g7, l7⟩, ⟨g8, l8⟩, ⟨g9, l9⟩, ⟨g10, l10⟩, ⟨g11, l11⟩, ⟨g12, l12⟩, ⟨g13, l13⟩, ⟨g14, l14⟩, ⟨g15, l15⟩⟩ => ⟨b1, b3, b6, b7, b8, b9, b10, b11, b12, b13, b14, b15, he, HX.out.1.trans ((show Below X.heap.size X w1 from ⟨hb.os, hb.tape, hb.output, hb.size, hb.block⟩).mono HX.out.1.size), (⟨k0, k1, k2, k3, HX.out.2.2.2⟩ : DoK w 13 a b c X).moved (Moved.of_below (show Below X.heap.size X w1 from ⟨hb.os, hb.tape, hb.output, hb.size, hb.block⟩) (fun _ => False)) (fun _ e => e.elim), g13, by have := HX.out.2.1; simp at l13; omega⟩)
  have HCL : ∀ (w1 : World) (g : Nat), Below w.heap.size w w1 → DoK w 13 a b c w1 → w1.cell? ⟨g, 0, none⟩ = some (fnV 79) ∧ w.heap.size < g → Calls Tryz.prog 100 #[.pointer (some ⟨mb, 0, none⟩), opV 13 a b c, .pointer (some ⟨g, 0, none⟩)] w1 fun e w2 => ∃ v er, e = .returned (.tuple #[.int .u64 v, .int .i64 er]) ∧ DoP w 13 a b c SS Post v er w2 := by
    intro w1 g hb hk ⟨hg, hl⟩
    refine (some1_any 79 g mb hv 13 a b c w1 Post (fun args w => rfl) hg ((hb.cell (cell_lt hm)).trans hm) SS (fun e => by have := HS.out.2 _ e; omega) HS.out.1 (fun e => by have := HS.out.2 _ e; have := hk.sz; omega) (fun w2 hb2 => HH.out w2 (hb.trans (hb2.mono hb.size)))).mono ?_
    rintro e w2 ⟨v, er, rfl, w3, hb3, hP, hM⟩
    exact ⟨v, er, rfl, w3, hb.trans (hb3.mono hb.size), by have := hk.sz; have := hb3.size; omega, hP, hM, (hk.moved (Moved.of_below hb3 (fun _ => False)) (fun _ e => e.elim)).moved hM HS.out.2⟩
  have HCL := Lib.hid HCL
  have HA := Lib.hid HA
  have HA0 := HA.out
  clear HA HH hm
  go_region_held3 (fun w' => w'.cell? ⟨w.heap.size, 0, none⟩ = some (.int .i64 13) ∧ w'.cell? ⟨w.heap.size, 1, none⟩ = some (.int .u64 a) ∧ w'.cell? ⟨w.heap.size, 2, none⟩ = some (.int .u64 b) ∧ w'.cell? ⟨w.heap.size, 3, none⟩ = some (.int .u64 c)) (first | exact ⟨HK.out.2.c0, HK.out.2.c1, HK.out.2.c2, HK.out.2.c3⟩ | exact ⟨HP.out.2.c0, HP.out.2.c1, HP.out.2.c2, HP.out.2.c3⟩ | go_keep) (first | (go_at_call 29; refine (HA0 _).mono ?_; rintro e w1 ⟨b1, b3, b6, b7, b8, b9, b10, b11, b12, b13, b14, b15, rfl, hb1, hk1, hg1, hl1⟩; have HK := Lib.hid (And.intro hb1 hk1); clear hb1 hk1) | (go_at_call 100; refine (HCL.out _ _ HK.out.1 HK.out.2 ⟨hg1, hl1⟩).mono ?_; rintro e w2 ⟨v, er, rfl, hP⟩; have HP := Lib.hid (And.intro hP hP.dok); clear hP))
  all_goals
    have hr0 := heap_cell HP.out.2.r 0
    have hr1 := heap_cell HP.out.2.r 1
    have hf0 := heap_free HP.out.2.r 0
    have hf1 := heap_free HP.out.2.r 1
    simp at hr0 hr1
    have fin : ∀ x : Int, Moved (fun q => q = w.heap.size + 1) w2 ((w2.setCell ⟨w.heap.size + 1, 0, none⟩ (.int .i64 er)).setCell ⟨w.heap.size + 1, 1, none⟩ (.int .u64 x)) := fun x => Moved.of_grown (grown_trans (grown_set _ _ _ _) (grown_set _ _ _ _)) (fun k e => by cases e; rfl)
    obtain ⟨w3, p1, p2, p3, p4, _⟩ := HP.out.1
    by_cases he : er = 0
    · have he2 : (er != 0) = false := by simp [he]
      have HE := Lib.hid he
      clear he
      go_wp2
      exact bodyPost_ret (v := .agg #[.int .i64 er, .int .u64 v]) (by simp [results, Tryz.results11, go_sem, hr0, hr1]) rfl ⟨v, er, by rw [resV, if_pos HE.out], w3, w2, p1, p2, p3, p4, fin _⟩
    · have he2 : (er != 0) = true := by simp [he]
      have HE := Lib.hid he
      clear he
      go_wp2
      exact bodyPost_ret (v := .agg #[.int .i64 er, .int .u64 0]) (by simp [results, Tryz.results11, go_sem, hr0, hr1]) rfl ⟨v, er, by rw [resV, if_neg HE.out], w3, w2, p1, p2, p3, p4, fin _⟩

set_option maxRecDepth 100000 in
set_option maxHeartbeats 4000000 in
theorem do14_any (mb : Nat) (hv : Addr) (a b c : Int) (w : World) (Post : World → Int → Int → World → Prop) (SS : Nat → Prop) (hs2 : ¬ SS mb) (hs3 : ∀ k, SS k → k < w.heap.size)
    (hm : w.cell? ⟨mb, 0, none⟩ = some (.pointer (some hv)))
    (h : ∀ w1, Below w.heap.size w w1 → Calls Tryz.prog 81 #[.pointer (some hv), opV 14 a b c] w1 fun e w' => ∃ v er, e = .returned (.tuple #[.int .u64 v, .int .i64 er]) ∧ Post w1 v er w' ∧ Moved SS w1 w') :
    Calls Tryz.prog 11 #[.pointer (some ⟨mb, 0, none⟩), opV 14 a b c] w fun e w' => ∃ v er, e = .returned (resV v er) ∧ ∃ w1 w2, Below w.heap.size w w1 ∧ w.heap.size + 1 < w1.heap.size ∧ Post w1 v er w2 ∧ Moved SS w1 w2 ∧ Moved (fun q => q = w.heap.size + 1) w2 w' := by
  obtain ⟨X, hX⟩ : ∃ X, (w.alloc (.cells #[.int .i64 14, .int .u64 a, .int .u64 b, .int .u64 c] 36)).alloc (.cells #[.int .i64 0, .int .u64 0] 39) = X := ⟨_, rfl⟩
  have hbX : Below w.heap.size w X := by rw [← hX]; exact ((Below.refl _ _).alloc (Nat.le_refl _) _).alloc (by simp) _
  have hsz : X.heap.size = w.heap.size + 2 := by rw [← hX]; simp
  have oX : X.heap[w.heap.size]? = some (.cells #[.int .i64 14, .int .u64 a, .int .u64 b, .int .u64 c] 36 (0, 0)) := by rw [← hX]; exact heap_alloc_lt (heap_alloc_eq _ _) _
  have oR : X.heap[w.heap.size + 1]? = some (.cells #[.int .i64 0, .int .u64 0] 39 (0, 0)) := by rw [← hX]; simpa using heap_alloc_eq (w.alloc (.cells #[.int .i64 14, .int .u64 a, .int .u64 b, .int .u64 c] 36)) (.cells #[.int .i64 0, .int .u64 0] 39)
  have k0 := heap_cell oX 0
  have k1 := heap_cell oX 1
  have k2 := heap_cell oX 2
  have k3 := heap_cell oX 3
  simp at k0 k1 k2 k3
  have HX := Lib.hid (And.intro hbX (And.intro hsz (And.intro oX oR)))
  have HH := Lib.hid h
  have HS := Lib.hid (And.intro hs2 hs3)
  clear h hbX hsz oX oR hs2 hs3
  go_enter Tryz.func11, Tryz.ntmps11
  go_wp2_with fail
  try rw [hX]
  go_wp2_with fail
  have hix : ∀ (b1 b3 b6 b7 b8 b9 b10 b11 b12 b13 b14 b15 : Nat) (w : World), (Instr.index 94 (.agg #[.nilFunc, clV 100 b1, fnV 59, clV 105 b3, fnV 63, fnV 64, clV 105 b6, clV 100 b7, clV 105 b8, clV 100 b9, clV 105 b10, clV 105 b11, clV 105 b12, clV 100 b13, clV 100 b14, clV 100 b15]) (.int .i64 14)).run Tryz.prog w = .ok (.agg #[clV 100 b14]) w := fun _ _ _ _ _ _ _ _ _ _ _ _ w => by kernel_rfl
  have hfl : ∀ (g : Nat) (w : World), (Instr.field 93 (.agg #[clV 100 g]) 0).run Tryz.prog w = .ok (clV 100 g) w := fun g w => by kernel_rfl
  have HA := fun n => (actions_any (X.drewN n)).mono (R' := fun e w1 => ∃ b1 b3 b6 b7 b8 b9 b10 b11 b12 b13 b14 b15 : Nat, e = .returned (.agg #[.nilFunc, clV 100 b1, fnV 59, clV 105 b3, fnV 63, fnV 64, clV 105 b6, clV 100 b7, clV 105 b8, clV 100 b9, clV 105 b10, clV 105 b11, clV 105 b12, clV 100 b13, clV 100 b14, clV 100 b15]) ∧ Below w.heap.size w w1 ∧ DoK w 14 a b c w1 ∧ w1.cell? ⟨b14, 0, none⟩ = some (fnV 81) ∧ w.heap.size < b14) (fun e w1 ⟨b1, b3, b6, b7, b8, b9, b10, b11, b12, b13, b14, b15, he, hb, ⟨g1, l1⟩, ⟨g3, l3⟩, ⟨g6, l6⟩, ⟨g7, l7⟩, ⟨g8, l8⟩, ⟨g9, l9⟩, ⟨g10, l10⟩, ⟨g11, l11⟩, ⟨g12, l12⟩, ⟨g13, l13⟩, ⟨g14, l14⟩, ⟨g15, l15⟩⟩ => ⟨b1, b3, b6, b7, b8, b9, b10, b11, b12, b13, b14, b15, he, HX.out.1.trans ((show Below X.heap.size X w1 from ⟨hb.os, hb.tape, hb.output, hb.size, hb.block⟩).mono HX.out.1.size), (⟨k0, k1, k2, k3, HX.out.2.2.2⟩ : DoK w 14 a b c X).moved (Moved.of_below (show Below X.heap.size X w1 from ⟨hb.os, hb.tape, hb.output, hb.size, hb.block⟩) (fun _ => False)) (fun _ e => e.elim), g14, by have := HX.out.2.1; simp at l14; omega⟩)
  have HCL : ∀ (w1 : World) (g : Nat), Below w.heap.size w w1 → DoK w 14 a b c w1 → w1.cell? ⟨g, 0, none⟩ = some (fnV 81) ∧ w.heap.size < g → Calls Tryz.prog 100 #[.pointer (some ⟨mb, 0, none⟩), opV 14 a b c, .pointer (some ⟨g, 0, none⟩)] w1 fun e w2 => ∃ v er, e = .returned (.tuple #[.int .u64 v, .int .i64 er]) ∧ DoP w 14 a b c SS Post v er w2 := by
    intro w1 g hb hk ⟨hg, hl⟩
    refine (some1_any 81 g mb hv 14 a b c w1 Post (fun args w => rfl) hg ((hb.cell (cell_lt hm)).trans hm) SS (fun e => by have := HS.out.2 _ e; omega) HS.out.1 (fun e => by have := HS.out.2 _ e; have := hk.sz; omega) (fun w2 hb2 => HH.out w2 (hb.trans (hb2.mono hb.size)))).mono ?_
    rintro e w2 ⟨v, er, rfl, w3, hb3, hP, hM⟩
    exact ⟨v, er, rfl, w3, hb.trans (hb3.mono hb.size), by have := hk.sz; have := hb3.size; omega, hP, hM, (hk.moved (Moved.of_below hb3 (fun _ => False)) (fun _ e => e.elim)).moved hM HS.out.2⟩
  have HCL := Lib.hid HCL
  have HA := Lib.hid HA
  have HA0 := HA.out
  clear HA HH hm
  go_region_held3 (fun w' => w'.cell? ⟨w.heap.size, 0, none⟩ = some (.int .i64 14) ∧ w'.cell? ⟨w.heap.size, 1, none⟩ = some (.int .u64 a) ∧ w'.cell? ⟨w.heap.size, 2, none⟩ = some (.int .u64 b) ∧ w'.cell? ⟨w.heap.size, 3, none⟩ = some (.int .u64 c)) (first | exact ⟨HK.out.2.c0, HK.out.2.c1, HK.out.2.c2, HK.out.2.c3⟩ | exact ⟨HP.out.2.c0, HP.out.2.c1, HP.out.2.c2, HP.out.2.c3⟩ | go_keep) (first | (go_at_call 29; refine (HA0 _).mono ?_; rintro e w1 ⟨b1, b3, b6, b7, b8, b9, b10, b11, b12, b13, b14, b15, rfl, hb1, hk1, hg1, hl1⟩; have HK := Lib.hid (And.intro hb1 hk1); clear hb1 hk1) | (go_at_call 100; refine (HCL.out _ _ HK.out.1 HK.out.2 ⟨hg1, hl1⟩).mono ?_; rintro e w2 ⟨v, er, rfl, hP⟩; have HP := Lib.hid (And.intro hP hP.dok); clear hP))
  all_goals
    have hr0 := heap_cell HP.out.2.r 0
    have hr1 := heap_cell HP.out.2.r 1
    have hf0 := heap_free HP.out.2.r 0
    have hf1 := heap_free HP.out.2.r 1
    simp at hr0 hr1
    have fin : ∀ x : Int, Moved (fun q => q = w.heap.size + 1) w2 ((w2.setCell ⟨w.heap.size + 1, 0, none⟩ (.int .i64 er)).setCell ⟨w.heap.size + 1, 1, none⟩ (.int .u64 x)) := fun x => Moved.of_grown (grown_trans (grown_set _ _ _ _) (grown_set _ _ _ _)) (fun k e => by cases e; rfl)
    obtain ⟨w3, p1, p2, p3, p4, _⟩ := HP.out.1
    by_cases he : er = 0
    · have he2 : (er != 0) = false := by simp [he]
      have HE := Lib.hid he
      clear he
      go_wp2
      exact bodyPost_ret (v := .agg #[.int .i64 er, .int .u64 v]) (by simp [results, Tryz.results11, go_sem, hr0, hr1]) rfl ⟨v, er, by rw [resV, if_pos HE.out], w3, w2, p1, p2, p3, p4, fin _⟩
    · have he2 : (er != 0) = true := by simp [he]
      have HE := Lib.hid he
      clear he
      go_wp2
      exact bodyPost_ret (v := .agg #[.int .i64 er, .int .u64 0]) (by simp [results, Tryz.results11, go_sem, hr0, hr1]) rfl ⟨v, er, by rw [resV, if_neg HE.out], w3, w2, p1, p2, p3, p4, fin _⟩

set_option maxRecDepth 100000 in
set_option maxHeartbeats 4000000 in
theorem do15_any (mb : Nat) (hv : Addr) (a b c : Int) (w : World) (Post : World → Int → Int → World → Prop) (SS : Nat → Prop) (hs2 : ¬ SS mb) (hs3 : ∀ k, SS k → k < w.heap.size)
    (hm : w.cell? ⟨mb, 0, none⟩ = some (.pointer (some hv)))
    (h : ∀ w1, Below w.heap.size w w1 → Calls Tryz.prog 83 #[.pointer (some hv), opV 15 a b c] w1 fun e w' => ∃ v er, e = .returned (.tuple #[.int .u64 v, .int .i64 er]) ∧ Post w1 v er w' ∧ Moved SS w1 w') :
    Calls Tryz.prog 11 #[.pointer (some ⟨mb, 0, none⟩), opV 15 a b c] w fun e w' => ∃ v er, e = .returned (resV v er) ∧ ∃ w1 w2, Below w.heap.size w w1 ∧ w.heap.size + 1 < w1.heap.size ∧ Post w1 v er w2 ∧ Moved SS w1 w2 ∧ Moved (fun q => q = w.heap.size + 1) w2 w' := by
  obtain ⟨X, hX⟩ : ∃ X, (w.alloc (.cells #[.int .i64 15, .int .u64 a, .int .u64 b, .int .u64 c] 36)).alloc (.cells #[.int .i64 0, .int .u64 0] 39) = X := ⟨_, rfl⟩
  have hbX : Below w.heap.size w X := by rw [← hX]; exact ((Below.refl _ _).alloc (Nat.le_refl _) _).alloc (by simp) _
  have hsz : X.heap.size = w.heap.size + 2 := by rw [← hX]; simp
  have oX : X.heap[w.heap.size]? = some (.cells #[.int .i64 15, .int .u64 a, .int .u64 b, .int .u64 c] 36 (0, 0)) := by rw [← hX]; exact heap_alloc_lt (heap_alloc_eq _ _) _
  have oR : X.heap[w.heap.size + 1]? = some (.cells #[.int .i64 0, .int .u64 0] 39 (0, 0)) := by rw [← hX]; simpa using heap_alloc_eq (w.alloc (.cells #[.int .i64 15, .int .u64 a, .int .u64 b, .int .u64 c] 36)) (.cells #[.int .i64 0, .int .u64 0] 39)
  have k0 := heap_cell oX 0
  have k1 := heap_cell oX 1
  have k2 := heap_cell oX 2
  have k3 := heap_cell oX 3
  simp at k0 k1 k2 k3
  have HX := Lib.hid (And.intro hbX (And.intro hsz (And.intro oX oR)))
  have HH := Lib.hid h
  have HS := Lib.hid (And.intro hs2 hs3)
  clear h hbX hsz oX oR hs2 hs3
  go_enter Tryz.func11, Tryz.ntmps11
  go_wp2_with fail
  try rw [hX]
  go_wp2_with fail
  have hix : ∀ (b1 b3 b6 b7 b8 b9 b10 b11 b12 b13 b14 b15 : Nat) (w : World), (Instr.index 94 (.agg #[.nilFunc, clV 100 b1, fnV 59, clV 105 b3, fnV 63, fnV 64, clV 105 b6, clV 100 b7, clV 105 b8, clV 100 b9, clV 105 b10, clV 105 b11, clV 105 b12, clV 100 b13, clV 100 b14, clV 100 b15]) (.int .i64 15)).run Tryz.prog w = .ok (.agg #[clV 100 b15]) w := fun _ _ _ _ _ _ _ _ _ _ _ _ w => by kernel_rfl
  have hfl : ∀ (g : Nat) (w : World), (Instr.field 93 (.agg #[clV 100 g]) 0).run Tryz.prog w = .ok (clV 100 g) w := fun g w => by kernel_rfl
  have HA := fun n => (actions_any (X.drewN n)).mono (R' := fun e w1 => ∃ b1 b3 b6 b7 b8 b9 b10 b11 b12 b13 b14 b15 : Nat, e = .returned (.agg #[.nilFunc, clV 100 b1, fnV 59, clV 105 b3, fnV 63, fnV 64, clV 105 b6, clV 100 b7, clV 105 b8, clV 100 b9, clV 105 b10, clV 105 b11, clV 105 b12, clV 100 b13, clV 100 b14, clV 100 b15]) ∧ Below w.heap.size w w1 ∧ DoK w 15 a b c w1 ∧ w1.cell? ⟨b15, 0, none⟩ = some (fnV 83) ∧ w.heap.size < b15) (fun e w1 ⟨b1, b3, b6, b7, b8, b9, b10, b11, b12, b13, b14, b15, he, hb, ⟨g1, l1⟩, ⟨g3, l3⟩, ⟨g6, l6⟩, ⟨g7, l7⟩, ⟨g8, l8⟩, ⟨g9, l9⟩, ⟨g10, l10⟩, ⟨g11, l11⟩, ⟨g12, l12⟩, ⟨g13, l13⟩, ⟨g14, l14⟩, ⟨g15, l15⟩⟩ => ⟨b1, b3, b6, b7, b8, b9, b10, b11, b12, b13, b14, b15, he, HX.out.1.trans ((show Below X.heap.size X w1 from ⟨hb.os, hb.tape, hb.output, hb.size, hb.block⟩).mono HX.out.1.size), (⟨k0, k1, k2, k3, HX.out.2.2.2⟩ : DoK w 15 a b c X).moved (Moved.of_below (show Below X.heap.size X w1 from ⟨hb.os, hb.tape, hb.output, hb.size, hb.block⟩) (fun _ => False)) (fun _ e => e.elim), g15, by have := HX.out.2.1; simp at l15; omega⟩)
  have HCL : ∀ (w1 : World) (g : Nat), Below w.heap.size w w1 → DoK w 15 a b c w1 → w1.cell? ⟨g, 0, none⟩ = some (fnV 83) ∧ w.heap.size < g → Calls Tryz.prog 100 #[.pointer (some ⟨mb, 0, none⟩), opV 15 a b c, .pointer (some ⟨g, 0, none⟩)] w1 fun e w2 => ∃ v er, e = .returned (.tuple #[.int .u64 v, .int .i64 er]) ∧ DoP w 15 a b c SS Post v er w2 := by
    intro w1 g hb hk ⟨hg, hl⟩
    refine (some1_any 83 g mb hv 15 a b c w1 Post (fun args w => rfl) hg ((hb.cell (cell_lt hm)).trans hm) SS (fun e => by have := HS.out.2 _ e; omega) HS.out.1 (fun e => by have := HS.out.2 _ e; have := hk.sz; omega) (fun w2 hb2 => HH.out w2 (hb.trans (hb2.mono hb.size)))).mono ?_
    rintro e w2 ⟨v, er, rfl, w3, hb3, hP, hM⟩
    exact ⟨v, er, rfl, w3, hb.trans (hb3.mono hb.size), by have := hk.sz; have := hb3.size; omega, hP, hM, (hk.moved (Moved.of_below hb3 (fun _ => False)) (fun _ e => e.elim)).moved hM HS.out.2⟩
  have HCL := Lib.hid HCL
  have HA := Lib.hid HA
  have HA0 := HA.out
  clear HA HH hm
  go_region_held3 (fun w' => w'.cell? ⟨w.heap.size, 0, none⟩ = some (.int .i64 15) ∧ w'.cell? ⟨w.heap.size, 1, none⟩ = some (.int .u64 a) ∧ w'.cell? ⟨w.heap.size, 2, none⟩ = some (.int .u64 b) ∧ w'.cell? ⟨w.heap.size, 3, none⟩ = some (.int .u64 c)) (first | exact ⟨HK.out.2.c0, HK.out.2.c1, HK.out.2.c2, HK.out.2.c3⟩ | exact ⟨HP.out.2.c0, HP.out.2.c1, HP.out.2.c2, HP.out.2.c3⟩ | go_keep) (first | (go_at_call 29; refine (HA0 _).mono ?_; rintro e w1 ⟨b1, b3, b6, b7, b8, b9, b10, b11, b12, b13, b14, b15, rfl, hb1, hk1, hg1, hl1⟩; have HK := Lib.hid (And.intro hb1 hk1); clear hb1 hk1) | (go_at_call 100; refine (HCL.out _ _ HK.out.1 HK.out.2 ⟨hg1, hl1⟩).mono ?_; rintro e w2 ⟨v, er, rfl, hP⟩; have HP := Lib.hid (And.intro hP hP.dok); clear hP))
  all_goals
    have hr0 := heap_cell HP.out.2.r 0
    have hr1 := heap_cell HP.out.2.r 1
    have hf0 := heap_free HP.out.2.r 0
    have hf1 := heap_free HP.out.2.r 1
    simp at hr0 hr1
    have fin : ∀ x : Int, Moved (fun q => q = w.heap.size + 1) w2 ((w2.setCell ⟨w.heap.size + 1, 0, none⟩ (.int .i64 er)).setCell ⟨w.heap.size + 1, 1, none⟩ (.int .u64 x)) := fun x => Moved.of_grown (grown_trans (grown_set _ _ _ _) (grown_set _ _ _ _)) (fun k e => by cases e; rfl)
    obtain ⟨w3, p1, p2, p3, p4, _⟩ := HP.out.1
    by_cases he : er = 0
    · have he2 : (er != 0) = false := by simp [he]
      have HE := Lib.hid he
      clear he
      go_wp2
      exact bodyPost_ret (v := .agg #[.int .i64 er, .int .u64 v]) (by simp [results, Tryz.results11, go_sem, hr0, hr1]) rfl ⟨v, er, by rw [resV, if_pos HE.out], w3, w2, p1, p2, p3, p4, fin _⟩
    · have he2 : (er != 0) = true := by simp [he]
      have HE := Lib.hid he
      clear he
      go_wp2
      exact bodyPost_ret (v := .agg #[.int .i64 er, .int .u64 0]) (by simp [results, Tryz.results11, go_sem, hr0, hr1]) rfl ⟨v, er, by rw [resV, if_neg HE.out], w3, w2, p1, p2, p3, p4, fin _⟩
end Go.Proofs.YtcenagpkfimkbaaGreatDoor
