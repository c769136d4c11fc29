/-
  Contracts of functions of the program, laid together.
-/
import Derived.Test.YtcenagpkfimkbaaGreatDoorTopSlotsM2
import Derived.Test.YtcenagpkfimkbaaGreatDoorTopSlotsM17
import Derived.Test.YtcenagpkfimkbaaGreatDoorTopSlotsM18
import Derived.Test.YtcenagpkfimkbaaGreatDoorTopSlotsM27
import Derived.Deep.RegionHeld3
import Derived.Deep.DrawnRows
namespace Go.Proofs.YtcenagpkfimkbaaGreatDoor
open Go Go.RowKit
attribute [local go_sem ↓] Go.wp_at_zero Go.wp_at_succ

theorem set8_cell {w : World} {g b o : Nat} {v : Value} (v0 v1 v2 v3 v4 v5 v6 v7 : Value) (hne : ¬ b = g) (hc : w.cell? ⟨b, o, none⟩ = some v) :
    ((((((((w.setCell ⟨g, 0, none⟩ v0).setCell ⟨g, 1, none⟩ v1).setCell ⟨g, 2, none⟩ v2).setCell ⟨g, 3, none⟩ v3).setCell ⟨g, 4, none⟩ v4).setCell ⟨g, 5, none⟩ v5).setCell ⟨g, 6, none⟩ v6).setCell ⟨g, 7, none⟩ v7).cell? ⟨b, o, none⟩ = some v :=
  (Moved.of_grown (S := fun q => q = g) (grown_trans (grown_trans (grown_trans (grown_trans (grown_trans (grown_trans (grown_trans (grown_set w g 0 v0) (grown_set _ g 1 v1)) (grown_set _ g 2 v2)) (grown_set _ g 3 v3)) (grown_set _ g 4 v4)) (grown_set _ g 5 v5)) (grown_set _ g 6 v6)) (grown_set _ g 7 v7)) (fun k e => by cases e; rfl)).cell hc hne

theorem below_moved {a b c : World} {S : Nat → Prop} {n : Nat} (h : Below n a b) (k : Moved S b c) (hn : n ≤ b.heap.size) (hs : ∀ q, S q → n ≤ q) : Below n a c :=
  ⟨k.os.trans h.os, k.tape.trans h.tape, k.output.trans h.output, Nat.le_trans h.size k.size, fun q hq => (k.block q (by omega) (fun e => by have := hs q e; omega)).trans (h.block q hq)⟩
theorem reads_kept {k : IntKind} {w w' : World} {a : Option Addr} {xs : List Int} {S : Nat → Prop} (h : Reads k w a xs) (hm : Moved S w w') (hs : xs = [] ∨ ∀ p, a = some p → ¬ S p.block) : Reads k w' a xs := by
  rcases hs with hs | hs
  · exact .inl hs
  · exact hm.reads h hs

def ObjRet (H : HM) (v : Int) (w : World) (e : Ending) (w' : World) : Prop :=
  ∃ (y1 y2 : Option Addr) (c1 c2 : Nat), e = .returned (.tuple #[.agg #[.int .i64 (onI H.ms H.ds v v), .int .i64 (owW H.on H.ow v), .bool (onA H.ms H.ds v), .int .i64 (onI H.ms H.ds v (gK (onX H.ms v))), .int .i64 (onI H.ms H.ds v (gT (onX H.ms v))), .int .i64 (onI H.ms H.ds v (gN (onX H.ms v))), .slice y1 (onK H.ms H.ds v).length c1, .slice y2 (onV H.ms H.ds v).length c2], .int .i64 0]) ∧
    Below w.heap.size w w' ∧ Reads .i64 w' y1 (onK H.ms H.ds v) ∧ Reads .u64 w' y2 (onV H.ms H.ds v) ∧ (onK H.ms H.ds v = [] ∨ ∀ p, y1 = some p → w.heap.size ≤ p.block) ∧ (onV H.ms H.ds v = [] ∨ ∀ p, y2 = some p → w.heap.size ≤ p.block)
section
variable {B : HB} {H : HM} {O0 O1 : Obj} {w : World} {S : Nat → Prop}
set_option maxRecDepth 100000 in
set_option maxHeartbeats 2000000 in
theorem hobjectNo_any (h : HeapSt B H O0 O1 w S) (v : Int) (v0 : 0 ≤ v) (v1 : v ≤ 18446744073709551615) (hs : hasM H.st v = false) :
    Calls Tryz.prog 117 #[.pointer (some ⟨B.hb, 0, none⟩), .int .u64 v] w fun e w' => e = .returned (.tuple #[.agg #[.int .i64 0, .int .i64 0, .bool false, .int .i64 0, .int .i64 0, .int .i64 0, .slice none 0 0, .slice none 0 0], .int .i64 9]) ∧ Below w.heap.size w w' := by
  obtain ⟨X, hX⟩ : ∃ X, w.alloc (.cells #[.int .i64 0, .int .i64 0, .bool false, .int .i64 0, .int .i64 0, .int .i64 0, .slice none 0 0, .slice none 0 0] 104) = X := ⟨_, rfl⟩
  have hbX : Below w.heap.size w X := by rw [← hX]; exact (Below.refl _ _).alloc (Nat.le_refl _) _
  have oX : X.heap[w.heap.size]? = some (.cells #[.int .i64 0, .int .i64 0, .bool false, .int .i64 0, .int .i64 0, .int .i64 0, .slice none 0 0, .slice none 0 0] 104 (0, 0)) := by rw [← hX]; exact heap_alloc_eq _ _
  have hI := sIs_any ((HeapSt.ok B H O0 O1).below h hbX).starts v v0 v1
  rw [hs] at hI
  have c2 := heap_cell ((HeapSt.ok B H O0 O1).below h hbX).blk 2
  simp at c2
  have k0 := heap_cell oX 0
  have k1 := heap_cell oX 1
  have k2 := heap_cell oX 2
  have k3 := heap_cell oX 3
  have k4 := heap_cell oX 4
  have k5 := heap_cell oX 5
  have k6 := heap_cell oX 6
  have k7 := heap_cell oX 7
  have f0 := heap_free oX 0
  have f1 := heap_free oX 1
  have f2 := heap_free oX 2
  have f3 := heap_free oX 3
  have f4 := heap_free oX 4
  have f5 := heap_free oX 5
  have f6 := heap_free oX 6
  have f7 := heap_free oX 7
  simp at k0 k1 k2 k3 k4 k5 k6 k7
  have HX := Lib.hid (And.intro hbX oX)
  clear h hbX oX hs
  go_enter Tryz.func117, Tryz.ntmps117
  go_wp2_with fail
  try rw [hX]
  go_wp2_with fail
  refine hI.mono ?_
  rintro e w1 ⟨rfl, rfl⟩
  clear hI
  go_wp2
  refine bodyPost_ret (v := .tuple #[.agg #[.int .i64 0, .int .i64 0, .bool false, .int .i64 0, .int .i64 0, .int .i64 0, .slice none 0 0, .slice none 0 0], .int .i64 9]) (by simp [results, Tryz.results117, go_sem, k0, k1, k2, k3, k4, k5, k6, k7]) rfl ?_
  have h8 := (set8_at HX.out.2 (.int .i64 0) (.int .i64 0) (.bool false) (.int .i64 0) (.int .i64 0) (.int .i64 0) (.slice none 0 0) (.slice none 0 0)).2
  exact ⟨rfl, HX.out.1.grown h8 HX.out.1.size (fun k e => by cases e; exact Nat.le_refl _)⟩

set_option maxRecDepth 100000 in
set_option maxHeartbeats 4000000 in
theorem hobjectYes_any (h : HeapSt B H O0 O1 w S) (hd : ∀ d ∈ H.ds, d.length ≤ 100) (hn : H.ds.length ≤ 1000) (hx : ∀ v ∈ H.ms, 0 ≤ v ∧ v < 18446744073709551616) (v : Int) (v0 : 0 ≤ v) (v1 : v ≤ 1000000) (hs : hasM H.st v = true) :
    Calls Tryz.prog 117 #[.pointer (some ⟨B.hb, 0, none⟩), .int .u64 v] w (ObjRet H v w) := by
  obtain ⟨X, hX⟩ : ∃ X, w.alloc (.cells #[.int .i64 0, .int .i64 0, .bool false, .int .i64 0, .int .i64 0, .int .i64 0, .slice none 0 0, .slice none 0 0] 104) = X := ⟨_, rfl⟩
  have hbX : Below w.heap.size w X := by rw [← hX]; exact (Below.refl _ _).alloc (Nat.le_refl _) _
  have oX : X.heap[w.heap.size]? = some (.cells #[.int .i64 0, .int .i64 0, .bool false, .int .i64 0, .int .i64 0, .int .i64 0, .slice none 0 0, .slice none 0 0] 104 (0, 0)) := by rw [← hX]; exact heap_alloc_eq _ _
  have hXh := (HeapSt.ok B H O0 O1).below h hbX
  have hI := sIs_any hXh.starts v v0 (by omega)
  rw [hs] at hI
  have c0 := heap_cell hXh.blk 0
  have c1 := heap_cell hXh.blk 1
  have c2 := heap_cell hXh.blk 2
  have c3 := heap_cell hXh.blk 3
  simp at c0 c1 c2 c3
  have yw : IntKind.i64.wrap v = v := by rw [IntKind.wrap_i64]; omega
  have hne : ¬ B.hb = X.heap.size := by have h1 := cell_lt c0; have h2 : B.hb < X.heap.size := h1; omega
  have HM := fun w' (hb : Below X.heap.size X w') => pMem_any (w := w') ((HeapSt.ok B H O0 O1).below hXh hb).pages
  have HO := fun w' (hb : Below X.heap.size X w') => (One_any B.mb B.mw H.ms v B.ta H.ds B.tc w' ((HeapSt.ok B H O0 O1).below hXh hb).tabs.1 ((HeapSt.ok B H O0 O1).below hXh hb).pages.mem ((HeapSt.ok B H O0 O1).below hXh hb).types hd (by omega) hx (by omega)).mono (R' := fun e w2 => OneRet (fun _ => False) H.ms H.ds v w' e w2 ∧ Below X.heap.size X w2 ∧ w2.cell? ⟨B.hb, 0, none⟩ = some (.pointer (some ⟨B.pb, 0, none⟩)) ∧ w2.cell? ⟨B.hb, 3, none⟩ = some (.slice B.ta H.ds.length B.tc) ∧ w2.cell? ⟨B.hb, 1, none⟩ = some (.pointer (some ⟨B.ob, 0, none⟩)) ∧ (X.heap.size < w'.heap.size → w2.heap[X.heap.size]? = w'.heap[X.heap.size]?))
    (fun e w2 ho => have hb2 : Below X.heap.size X w2 := (by obtain ⟨_, _, _, _, _, h, _⟩ := ho; exact hb.trans (h.mono hb.size)); ⟨ho, hb2, (hb2.cell (p := ⟨B.hb, 0, none⟩) (cell_lt c0)).trans c0, (hb2.cell (p := ⟨B.hb, 3, none⟩) (cell_lt c3)).trans c3, (hb2.cell (p := ⟨B.hb, 1, none⟩) (cell_lt c1)).trans c1, fun h1 => by obtain ⟨_, _, _, _, _, h, _⟩ := ho; exact h.block _ h1⟩)
  have HH := Lib.hid (And.intro hXh (And.intro hbX (And.intro oX (And.intro HM HO))))
  clear h hbX oX hs hXh HM HO hd hx
  go_enter Tryz.func117, Tryz.ntmps117
  go_wp2_with fail
  try rw [hX]
  go_wp2_with fail
  refine hI.mono ?_
  rintro e w1 ⟨rfl, rfl⟩
  clear hI
  go_wp2
  go_region_held3 (fun w' => w'.cell? ⟨B.hb, 0, none⟩ = some (.pointer (some ⟨B.pb, 0, none⟩)) ∧ w'.cell? ⟨B.hb, 3, none⟩ = some (.slice B.ta H.ds.length B.tc)) (first | (with_reducible exact ⟨q0, q3⟩) | (with_reducible exact ⟨set8_cell _ _ _ _ _ _ _ _ hne q0, set8_cell _ _ _ _ _ _ _ _ hne q3⟩) | go_keep) (first | (go_at_call 89; refine (HH.out.2.2.2.1 _ (by first | exact ⟨rfl, rfl, rfl, by simp, fun _ _ => rfl⟩ | exact (Below.refl _ _).alloc (Nat.le_refl _) _ | exact (show Below X.heap.size X X.drew from ⟨rfl, rfl, rfl, by simp, fun _ _ => rfl⟩).alloc (by simp) _)).mono ?_; rintro e w' ⟨rfl, rfl⟩) | (go_at_call 88; refine (HH.out.2.2.2.2 _ (by first | exact ⟨rfl, rfl, rfl, by simp, fun _ _ => rfl⟩ | exact (Below.refl _ _).alloc (Nat.le_refl _) _ | exact (show Below X.heap.size X X.drew from ⟨rfl, rfl, rfl, by simp, fun _ _ => rfl⟩).alloc (by simp) _)).mono ?_; rintro e w2 ⟨⟨y1, y2, d1, d2, rfl, hb2, hr1, hr2, ho1, ho2⟩, hbx, q0, q3, q1, hz⟩; (first | (have oz := (hz (by simp)).trans (heap_alloc_eq X.drew (.cells #[.int .i64 0, .int .i64 0, .bool false, .int .i64 0, .int .i64 0, .int .i64 0, .slice none 0 0, .slice none 0 0] 104)); have z0 := heap_cell oz 0; have e0 := heap_free oz 0; have z1 := heap_cell oz 1; have e1 := heap_free oz 1; have z2 := heap_cell oz 2; have e2 := heap_free oz 2; have z3 := heap_cell oz 3; have e3 := heap_free oz 3; have z4 := heap_cell oz 4; have e4 := heap_free oz 4; have z5 := heap_cell oz 5; have e5 := heap_free oz 5; have z6 := heap_cell oz 6; have e6 := heap_free oz 6; have z7 := heap_cell oz 7; have e7 := heap_free oz 7; simp at z0 z1 z2 z3 z4 z5 z6 z7; have OZ := Lib.hid oz; clear oz) | skip); clear hz; have HR := Lib.hid (And.intro hb2 (And.intro hr1 (And.intro hr2 (And.intro ho1 (And.intro ho2 hbx))))); clear hb2 hr1 hr2 ho1 ho2 hbx))
  all_goals
    have hw2 : X.heap.size ≤ w2.heap.size := HR.out.2.2.2.2.2.size
    first
    | (generalize hW : World.setCell _ _ _ = wO
       have oO : wO.heap[X.heap.size]? = some (.cells #[.int .i64 (onI H.ms H.ds v v), .int .i64 0, .bool (onA H.ms H.ds v), .int .i64 (onI H.ms H.ds v (gK (onX H.ms v))), .int .i64 (onI H.ms H.ds v (gT (onX H.ms v))), .int .i64 (onI H.ms H.ds v (gN (onX H.ms v))), .slice y1 (onK H.ms H.ds v).length d1, .slice y2 (onV H.ms H.ds v).length d2] 104 (0, 0)) := by rw [← hW]; exact (set8_at OZ.out (.int .i64 (onI H.ms H.ds v v)) (.int .i64 0) (.bool (onA H.ms H.ds v)) (.int .i64 (onI H.ms H.ds v (gK (onX H.ms v)))) (.int .i64 (onI H.ms H.ds v (gT (onX H.ms v)))) (.int .i64 (onI H.ms H.ds v (gN (onX H.ms v)))) (.slice y1 (onK H.ms H.ds v).length d1) (.slice y2 (onV H.ms H.ds v).length d2)).1
       have hm : Moved (fun q => q = X.heap.size) w2 wO := by rw [← hW]; exact Moved.of_grown (set8_at OZ.out (.int .i64 (onI H.ms H.ds v v)) (.int .i64 0) (.bool (onA H.ms H.ds v)) (.int .i64 (onI H.ms H.ds v (gK (onX H.ms v)))) (.int .i64 (onI H.ms H.ds v (gT (onX H.ms v)))) (.int .i64 (onI H.ms H.ds v (gN (onX H.ms v)))) (.slice y1 (onK H.ms H.ds v).length d1) (.slice y2 (onV H.ms H.ds v).length d2)).2 (fun k e => by cases e; rfl)
       obtain ⟨b, hb⟩ : ∃ b, X.heap.size = b := ⟨_, rfl⟩
       have hbl : X.heap.size ≤ b := by omega
       have hn1 : onK H.ms H.ds v = [] ∨ ∀ p, y1 = some p → ¬ p.block = b := HR.out.2.2.2.1.imp_right (fun h p e h2 => by have := h p e; simp at this; omega)
       have hn2 : onV H.ms H.ds v = [] ∨ ∀ p, y2 = some p → ¬ p.block = b := HR.out.2.2.2.2.1.imp_right (fun h p e h2 => by have := h p e; simp at this; omega)
       rw [hb] at oO hm ⊢)
    | (generalize hW : World.alloc _ _ = wO
       have oO : wO.heap[w2.heap.size]? = some (.cells #[.int .i64 (onI H.ms H.ds v v), .int .i64 0, .bool (onA H.ms H.ds v), .int .i64 (onI H.ms H.ds v (gK (onX H.ms v))), .int .i64 (onI H.ms H.ds v (gT (onX H.ms v))), .int .i64 (onI H.ms H.ds v (gN (onX H.ms v))), .slice y1 (onK H.ms H.ds v).length d1, .slice y2 (onV H.ms H.ds v).length d2] 104 (0, 0)) := by rw [← hW]; exact heap_alloc_eq _ _
       have hm : Moved (fun q => q = w2.heap.size) w2 wO := by rw [← hW]; exact Moved.of_below ((Below.refl _ _).alloc (Nat.le_refl _) _) _
       obtain ⟨b, hb⟩ : ∃ b, w2.heap.size = b := ⟨_, rfl⟩
       have hbl : X.heap.size ≤ b := by omega
       have hn1 : onK H.ms H.ds v = [] ∨ ∀ p, y1 = some p → ¬ p.block = b := HR.out.2.1.lt_or.imp_right (fun h p e h2 => by have := h p e; omega)
       have hn2 : onV H.ms H.ds v = [] ∨ ∀ p, y2 = some p → ¬ p.block = b := HR.out.2.2.1.lt_or.imp_right (fun h p e h2 => by have := h p e; omega)
       rw [hb] at oO hm ⊢)
    have hbO : Below X.heap.size X wO := below_moved HR.out.2.2.2.2.2 hm hw2 (fun q e => by rw [e]; exact hbl)
    have hO1 := reads_kept HR.out.2.1 hm hn1
    have hO2 := reads_kept HR.out.2.2.1 hm hn2
    have hy1 : onK H.ms H.ds v = [] ∨ ∀ p, y1 = some p → w.heap.size < p.block := HR.out.2.2.2.1.imp_right (fun h p e => by have h1 := h p e; have h2 := heap_lt HH.out.2.2.1; simp at h1; omega)
    have hy2 : onV H.ms H.ds v = [] ∨ ∀ p, y2 = some p → w.heap.size < p.block := HR.out.2.2.2.2.1.imp_right (fun h p e => by have h1 := h p e; have h2 := heap_lt HH.out.2.2.1; simp at h1; omega)
    have hRO := heap_below hbO HH.out.2.2.1 (heap_lt HH.out.2.2.1)
    have hc1 := (hbO.cell (p := ⟨B.hb, 1, none⟩) (cell_lt c1)).trans c1
    obtain ⟨gm, hown⟩ := ((HeapSt.ok B H O0 O1).below HH.out.1 hbO).owner
    have hW := oWord_any hown v (by omega)
    have hbR : ¬ b = w.heap.size := fun e => by have := heap_lt HH.out.2.2.1; omega
    have hRb : ¬ w.heap.size = b := fun e => hbR e.symm
    have HBL := Lib.hid hbl
    have HF := Lib.hid (And.intro hbO (And.intro hO1 (And.intro hO2 (And.intro hy1 (And.intro hy2 (And.intro hRO (And.intro oO (And.intro hn1 hn2))))))))
    have r0 := heap_cell hRO 0
    have r1 := heap_cell hRO 1
    have r2 := heap_cell hRO 2
    have r3 := heap_cell hRO 3
    have r4 := heap_cell hRO 4
    have r5 := heap_cell hRO 5
    have r6 := heap_cell hRO 6
    have r7 := heap_cell hRO 7
    have s0 := heap_free hRO 0
    have s1 := heap_free hRO 1
    have s2 := heap_free hRO 2
    have s3 := heap_free hRO 3
    have s4 := heap_free hRO 4
    have s5 := heap_free hRO 5
    have s6 := heap_free hRO 6
    have s7 := heap_free hRO 7
    have x0 := heap_cell oO 0
    have x1 := heap_cell oO 1
    have x2 := heap_cell oO 2
    have x3 := heap_cell oO 3
    have x4 := heap_cell oO 4
    have x5 := heap_cell oO 5
    have x6 := heap_cell oO 6
    have x7 := heap_cell oO 7
    have t1 := heap_free oO 1
    simp at r0 r1 r2 r3 r4 r5 r6 r7 x0 x1 x2 x3 x4 x5 x6 x7
    clear hbO hO1 hO2 hy1 hy2 hRO oO hn1 hn2 hown hm hbl hw2 q0 q1 q3 c0 c1 c2 c3
    go_wp2_with fail
    refine hW.mono ?_
    rintro e w5 ⟨rfl, rfl⟩
    clear hW
    go_wp2
    refine bodyPost_ret (v := .tuple #[.agg #[.int .i64 (onI H.ms H.ds v v), .int .i64 (owW H.on H.ow v), .bool (onA H.ms H.ds v), .int .i64 (onI H.ms H.ds v (gK (onX H.ms v))), .int .i64 (onI H.ms H.ds v (gT (onX H.ms v))), .int .i64 (onI H.ms H.ds v (gN (onX H.ms v))), .slice y1 (onK H.ms H.ds v).length d1, .slice y2 (onV H.ms H.ds v).length d2], .int .i64 0]) (by simp [results, Tryz.results117, go_sem, r0, r1, r2, r3, r4, r5, r6, r7]) rfl ?_
    obtain ⟨hbO, hO1, hO2, hy1, hy2, hRO, oO, hn1, hn2⟩ := HF.out
    have hR2 : (wO.setCell ⟨b, 1, none⟩ (.int .i64 (owW H.on H.ow v))).heap[w.heap.size]? = _ := (heap_set_ne hRb 1 _).trans hRO
    have h8 := (set8_at hR2 (.int .i64 (onI H.ms H.ds v v)) (.int .i64 (owW H.on H.ow v)) (.bool (onA H.ms H.ds v)) (.int .i64 (onI H.ms H.ds v (gK (onX H.ms v)))) (.int .i64 (onI H.ms H.ds v (gT (onX H.ms v)))) (.int .i64 (onI H.ms H.ds v (gN (onX H.ms v)))) (.slice y1 (onK H.ms H.ds v).length d1) (.slice y2 (onV H.ms H.ds v).length d2)).2
    have hm8 := (Moved.of_set (S := fun q => q = b ∨ q = w.heap.size) wO b 1 (.int .i64 (owW H.on H.ow v)) (.inl rfl)).trans (Moved.of_grown h8 (S := fun q => q = b ∨ q = w.heap.size) (fun k e => by cases e; exact .inr rfl)) (fun _ e => .inl e)
    have hXs := heap_lt HH.out.2.2.1
    have hbw : Below w.heap.size w wO := HH.out.2.1.trans (hbO.mono HH.out.2.1.size)
    refine ⟨y1, y2, d1, d2, rfl, below_moved hbw hm8 hbw.size (fun q e => ?_), reads_kept hO1 hm8 ?_, reads_kept hO2 hm8 ?_, hy1.imp_right (fun h p e => Nat.le_of_lt (h p e)), hy2.imp_right (fun h p e => Nat.le_of_lt (h p e))⟩
    · have := HBL.out
      rcases e with e | e <;> omega
    · rcases hn1 with h1 | h1
      · exact .inl h1
      · rcases hy1 with h2 | h2
        · exact .inl h2
        · exact .inr fun p e h3 => by
            rcases h3 with h3 | h3
            · exact h1 p e h3
            · have := h2 p e; omega
    · rcases hn2 with h1 | h1
      · exact .inl h1
      · rcases hy2 with h2 | h2
        · exact .inl h2
        · exact .inr fun p e h3 => by
            rcases h3 with h3 | h3
            · exact h1 p e h3
            · have := h2 p e; omega
end
end Go.Proofs.YtcenagpkfimkbaaGreatDoor
namespace Go.Proofs.YtcenagpkfimkbaaGreatDoor
open Go Go.RowKit
attribute [local go_sem ↓] Go.wp_at_zero Go.wp_at_succ

def gtE (H : HM) (a i : Int) : Int := if hasM H.st a = true then ldE H.ms.length (onI H.ms H.ds a a) (onK H.ms H.ds a).length i else 9
def gtV (H : HM) (a i : Int) : Int := if hasM H.st a = true then ldV H.ms (onI H.ms H.ds a a) (onK H.ms H.ds a).length i else 0
section
variable {B : HB} {H : HM} {O0 O1 : Obj} {w : World} {S : Nat → Prop}
set_option maxRecDepth 100000 in
set_option maxHeartbeats 4000000 in
theorem heGet_any (h : HeapSt B H O0 O1 w S) (hd : ∀ d ∈ H.ds, d.length ≤ 100) (hn : H.ds.length ≤ 1000) (hx : ∀ v ∈ H.ms, 0 ≤ v ∧ v < 18446744073709551616) (hkl : ∀ v, (onK H.ms H.ds v).length ≤ 4000) (hsm : ∀ v, hasM H.st v = true → v ≤ 1000000) (a i : Int) (a0 : 0 ≤ a) (a1 : a ≤ 18446744073709551615) (i0 : 0 ≤ i) (i1 : i ≤ 18446744073709551615) :
    Calls Tryz.prog 68 #[.pointer (some ⟨B.hb, 0, none⟩), .int .u64 a, .int .u64 i] w fun e w' => e = .returned (.tuple #[.int .u64 (gtV H a i), .int .i64 (gtE H a i)]) ∧ Below w.heap.size w w' := by
  cases hs : hasM H.st a
  · have hO := hobjectNo_any h a a0 a1 hs
    have e1 : Hid (gtE H a i = 9 ∧ gtV H a i = 0) := Lib.hid (by rw [gtE, gtV, hs]; exact ⟨rfl, rfl⟩)
    clear h hs hd hx hkl hsm
    go_enter Tryz.func68, Tryz.ntmps68
    go_wp2_with fail
    refine hO.mono ?_
    rintro e w1 ⟨rfl, hb⟩
    have HB := Lib.hid hb
    clear hO hb
    go_wp2
    go_ret2
    exact ⟨by rw [e1.out.1, e1.out.2]; rfl, HB.out.alloc HB.out.size _⟩
  · have hO := hobjectYes_any h hd hn hx a a0 (hsm a hs) hs
    have e1 : Hid (gtE H a i = ldE H.ms.length (onI H.ms H.ds a a) (onK H.ms H.ds a).length i ∧ gtV H a i = ldV H.ms (onI H.ms H.ds a a) (onK H.ms H.ds a).length i) := Lib.hid (by rw [gtE, gtV, hs]; exact ⟨rfl, rfl⟩)
    have HH := Lib.hid (And.intro h (hkl a))
    have c0 := heap_cell h.blk 0
    simp at c0
    clear h hs hd hx hkl hsm
    go_enter Tryz.func68, Tryz.ntmps68
    go_wp2_with fail
    refine hO.mono ?_
    rintro e w1 ⟨y1, y2, d1, d2, rfl, hb, hr1, hr2, _, _⟩
    obtain ⟨at_, hat⟩ : ∃ x, onI H.ms H.ds a a = x := ⟨_, rfl⟩
    obtain ⟨rg, hrg⟩ : ∃ x, owW H.on H.ow a = x := ⟨_, rfl⟩
    obtain ⟨ar, har⟩ : ∃ x, onA H.ms H.ds a = x := ⟨_, rfl⟩
    obtain ⟨x3, hx3⟩ : ∃ x, onI H.ms H.ds a (gK (onX H.ms a)) = x := ⟨_, rfl⟩
    obtain ⟨x4, hx4⟩ : ∃ x, onI H.ms H.ds a (gT (onX H.ms a)) = x := ⟨_, rfl⟩
    obtain ⟨x5, hx5⟩ : ∃ x, onI H.ms H.ds a (gN (onX H.ms a)) = x := ⟨_, rfl⟩
    obtain ⟨ks, hks⟩ : ∃ x, onK H.ms H.ds a = x := ⟨_, rfl⟩
    obtain ⟨vs, hvs⟩ : ∃ x, onV H.ms H.ds a = x := ⟨_, rfl⟩
    have hkl := HH.out.2
    rw [hat, hks] at e1
    rw [hks] at hr1 hkl
    simp only [hat, hrg, har, hx3, hx4, hx5, hks, hvs]
    obtain ⟨W, hW⟩ : ∃ W, w1.alloc (.cells #[.int .i64 at_, .int .i64 rg, .bool ar, .int .i64 x3, .int .i64 x4, .int .i64 x5, .slice y1 ks.length d1, .slice y2 vs.length d2] 104) = W := ⟨_, rfl⟩
    have hbW : Below w1.heap.size w1 W := by rw [← hW]; exact (Below.refl _ _).alloc (Nat.le_refl _) _
    have oW : W.heap[w1.heap.size]? = some (.cells #[.int .i64 at_, .int .i64 rg, .bool ar, .int .i64 x3, .int .i64 x4, .int .i64 x5, .slice y1 ks.length d1, .slice y2 vs.length d2] 104 (0, 0)) := by rw [← hW]; exact heap_alloc_eq _ _
    have hbw : Below w.heap.size w W := hb.trans (hbW.mono hb.size)
    have hhW := (HeapSt.ok B H O0 O1).below HH.out.1 hbw
    have q0 := (hbw.cell (p := ⟨B.hb, 0, none⟩) (cell_lt c0)).trans c0
    have HM := fun n => pMem_any (w := W.drewN n) ((HeapSt.ok B H O0 O1).below hhW (show Below W.heap.size W (W.drewN n) from ⟨rfl, rfl, rfl, by simp, fun _ _ => rfl⟩)).pages
    have HL := fun n => Load_any B.mb B.mw H.ms at_ rg x3 x4 x5 ar y1 ks d1 y2 vs.length d2 i (W.drewN n) ((HeapSt.ok B H O0 O1).below hhW (show Below W.heap.size W (W.drewN n) from ⟨rfl, rfl, rfl, by simp, fun _ _ => rfl⟩)).pages.mem ((hr1.below hbW).below (show Below W.heap.size W (W.drewN n) from ⟨rfl, rfl, rfl, by simp, fun _ _ => rfl⟩)) hkl i0 i1
    obtain ⟨rE, hrE⟩ : ∃ x, ldE H.ms.length at_ ks.length i = x := ⟨_, rfl⟩
    obtain ⟨rV, hrV⟩ : ∃ x, ldV H.ms at_ ks.length i = x := ⟨_, rfl⟩
    simp only [hrE, hrV] at HL
    rw [hrE, hrV] at e1
    have z0 := heap_cell oW 0
    have z1 := heap_cell oW 1
    have z2 := heap_cell oW 2
    have z3 := heap_cell oW 3
    have z4 := heap_cell oW 4
    have z5 := heap_cell oW 5
    have z6 := heap_cell oW 6
    have z7 := heap_cell oW 7
    simp at z0 z1 z2 z3 z4 z5 z6 z7
    have HB := Lib.hid (And.intro hbw (And.intro q0 (And.intro z0 (And.intro z1 (And.intro z2 (And.intro z3 (And.intro z4 (And.intro z5 (And.intro z6 z7)))))))))
    have HK : Hid (∀ n w2, Below (W.drewN n).heap.size (W.drewN n) w2 → Below w.heap.size w w2 ∧ (w2.cell? ⟨B.hb, 0, none⟩ = some (.pointer (some ⟨B.pb, 0, none⟩)) ∧ w2.cell? ⟨w1.heap.size, 0, none⟩ = some (.int .i64 at_) ∧ w2.cell? ⟨w1.heap.size, 1, none⟩ = some (.int .i64 rg) ∧ w2.cell? ⟨w1.heap.size, 2, none⟩ = some (.bool ar) ∧ w2.cell? ⟨w1.heap.size, 3, none⟩ = some (.int .i64 x3) ∧ w2.cell? ⟨w1.heap.size, 4, none⟩ = some (.int .i64 x4) ∧ w2.cell? ⟨w1.heap.size, 5, none⟩ = some (.int .i64 x5) ∧ w2.cell? ⟨w1.heap.size, 6, none⟩ = some (.slice y1 ks.length d1) ∧ w2.cell? ⟨w1.heap.size, 7, none⟩ = some (.slice y2 vs.length d2))) := by
      refine Lib.hid fun n w2 hb2 => ?_
      have hb3 : Below W.heap.size W w2 := ⟨hb2.os, hb2.tape, hb2.output, hb2.size, hb2.block⟩
      exact ⟨hbw.trans (hb3.mono hbw.size), (hb3.cell (p := ⟨B.hb, 0, none⟩) (cell_lt q0)).trans q0, (hb3.cell (p := ⟨w1.heap.size, 0, none⟩) (cell_lt z0)).trans z0, (hb3.cell (p := ⟨w1.heap.size, 1, none⟩) (cell_lt z1)).trans z1, (hb3.cell (p := ⟨w1.heap.size, 2, none⟩) (cell_lt z2)).trans z2, (hb3.cell (p := ⟨w1.heap.size, 3, none⟩) (cell_lt z3)).trans z3, (hb3.cell (p := ⟨w1.heap.size, 4, none⟩) (cell_lt z4)).trans z4, (hb3.cell (p := ⟨w1.heap.size, 5, none⟩) (cell_lt z5)).trans z5, (hb3.cell (p := ⟨w1.heap.size, 6, none⟩) (cell_lt z6)).trans z6, (hb3.cell (p := ⟨w1.heap.size, 7, none⟩) (cell_lt z7)).trans z7⟩
    clear hb hr1 hr2 hO hbW oW hbw hhW hat hrg har hx3 hx4 hx5 hks hvs hrE hrV hkl
    go_wp2_with fail
    try rw [hW]
    go_wp2_with fail
    go_region_held3 (fun w' => w'.cell? ⟨B.hb, 0, none⟩ = some (.pointer (some ⟨B.pb, 0, none⟩)) ∧ w'.cell? ⟨w1.heap.size, 0, none⟩ = some (.int .i64 at_) ∧ w'.cell? ⟨w1.heap.size, 1, none⟩ = some (.int .i64 rg) ∧ w'.cell? ⟨w1.heap.size, 2, none⟩ = some (.bool ar) ∧ w'.cell? ⟨w1.heap.size, 3, none⟩ = some (.int .i64 x3) ∧ w'.cell? ⟨w1.heap.size, 4, none⟩ = some (.int .i64 x4) ∧ w'.cell? ⟨w1.heap.size, 5, none⟩ = some (.int .i64 x5) ∧ w'.cell? ⟨w1.heap.size, 6, none⟩ = some (.slice y1 ks.length d1) ∧ w'.cell? ⟨w1.heap.size, 7, none⟩ = some (.slice y2 vs.length d2)) (first | (with_reducible exact HZ.out.2) | go_keep) (first | (go_at_call 89; refine (HM _).mono ?_; rintro e w' ⟨rfl, rfl⟩) | (go_at_call 125; refine (HL _).mono ?_; rintro e w2 ⟨rfl, hb2⟩; have HZ := Lib.hid (HK.out _ _ hb2); clear hb2))
    all_goals
      go_wp2
      go_ret2
      exact ⟨by rw [e1.out.1, e1.out.2]; rfl, HZ.out.1⟩
end
end Go.Proofs.YtcenagpkfimkbaaGreatDoor
namespace Go.Proofs.YtcenagpkfimkbaaGreatDoor
open Go Go.RowKit
attribute [local go_sem ↓] Go.wp_at_zero Go.wp_at_succ

set_option maxRecDepth 100000 in
set_option maxHeartbeats 2000000 in
theorem pBack_any {pb rb rw mb mw : Nat} {gs : List Bool} {ms : List Int} {w : World} (h : PagesAt w pb rb rw mb mw gs ms) (f n : Int) (hn : 1 ≤ n) (hw : wholeM gs f n true = true) :
    Calls Tryz.prog 159 #[.pointer (some ⟨pb, 0, none⟩), .agg #[.int .i64 f, .int .i64 n]] w fun e w' => e = .returned (.int .i64 0) ∧ Moved (fun q => q = rw) w w' ∧ PagesAt w' pb rb rw mb mw (markX gs f n false) ms := by
  obtain ⟨X, hX⟩ : ∃ X, w.alloc (.cells #[.int .i64 f, .int .i64 n] 160) = X := ⟨_, rfl⟩
  have hbX : Below w.heap.size w X := by rw [← hX]; exact (Below.refl _ _).alloc (Nat.le_refl _) _
  have oX : X.heap[w.heap.size]? = some (.cells #[.int .i64 f, .int .i64 n] 160 (0, 0)) := by rw [← hX]; exact heap_alloc_eq _ _
  have k0 := heap_cell oX 0
  have k1 := heap_cell oX 1
  have c0 := heap_cell (h.later hbX).blk 0
  simp at k0 k1 c0
  have hB : hasB gs.length f n = true := by simp only [wholeM, Bool.and_eq_true] at hw; exact hw.1
  have hW := fun w1 (hb : Below X.heap.size X w1) => (bWhole_any rb rw gs f n true w1 ((h.later hbX).row.later hb)).mono (R' := fun e w2 => e = .returned (.bool true) ∧ Below X.heap.size X w2 ∧ w2.cell? ⟨w.heap.size, 0, none⟩ = some (.int .i64 f) ∧ w2.cell? ⟨w.heap.size, 1, none⟩ = some (.int .i64 n) ∧ w2.cell? ⟨pb, 0, none⟩ = some (.pointer (some ⟨rb, 0, none⟩))) (fun e w2 ⟨he, hb2⟩ => have hb3 := hb.trans (hb2.mono hb.size); ⟨by rw [he, hw], hb3, (hb3.cell (p := ⟨w.heap.size, 0, none⟩) (cell_lt k0)).trans k0, (hb3.cell (p := ⟨w.heap.size, 1, none⟩) (cell_lt k1)).trans k1, (hb3.cell (p := ⟨pb, 0, none⟩) (cell_lt c0)).trans c0⟩)
  have hM := fun w1 (hb : Below X.heap.size X w1) => (bMark_any rb rw gs f n false w1 ((h.later hbX).row.later hb)).mono (R' := fun e w2 => e = .returned (.int .i64 0) ∧ Moved (fun q => q = rw) w w2 ∧ PagesAt w2 pb rb rw mb mw (markX gs f n false) ms ∧ w2.cell? ⟨w.heap.size, 0, none⟩ = some (.int .i64 f) ∧ w2.cell? ⟨w.heap.size, 1, none⟩ = some (.int .i64 n) ∧ w2.cell? ⟨pb, 0, none⟩ = some (.pointer (some ⟨rb, 0, none⟩))) (fun e w2 ⟨he, hm, hr⟩ => by
    have ha := h.apart
    have hb3 := hbX.trans (hb.mono hbX.size)
    have hP := h.later hb3
    have hm2 : Moved (fun q => q = rw) w w2 := (Moved.of_below hb3 _).trans hm (fun q e => .inl e)
    have hl : (markX gs f n false).length = gs.length := by unfold markX markL; rw [if_pos hB]; simp [hasB] at hB; simp; omega
    have hlt := heap_lt h.row.blocks.2.choose_spec
    have g0 := hm.cell ((hb.cell (p := ⟨w.heap.size, 0, none⟩) (cell_lt k0)).trans k0) (fun e => by have : w.heap.size = rw := e; omega)
    have g1 := hm.cell ((hb.cell (p := ⟨w.heap.size, 1, none⟩) (cell_lt k1)).trans k1) (fun e => by have : w.heap.size = rw := e; omega)
    have g2 := hm.cell ((hb.cell (p := ⟨pb, 0, none⟩) (cell_lt c0)).trans c0) (fun e => ha.2.1 e)
    exact ⟨by rw [he, markE, if_pos hB], hm2, ⟨hm.heap hP.blk (fun e => ha.2.1 e), hr, hP.mem.moved hm (fun e => ha.2.2.2.2.2.2.2.1 e.symm) (fun e => ha.2.2.2.2.2.2.2.2.1 e.symm), by rw [hl]; exact h.len, by rw [hl]; exact h.lo, by rw [hl]; exact h.hi, h.ne⟩, g0, g1, g2⟩)
  have HH := Lib.hid (And.intro hW hM)
  have y1 : decide (n < 1) = false := by simp; omega
  clear h hbX oX hw hB hW hM
  go_enter Tryz.func159, Tryz.ntmps159
  go_wp2_with fail
  try rw [hX]
  go_wp2_with fail
  first | (go_region_with (go_at_call 188; refine (HH.out.1 _ (by exact ⟨rfl, rfl, rfl, by simp, fun _ _ => rfl⟩)).mono ?_; rintro e w1 ⟨rfl, hb1, q0, q1, q2⟩; have HZ := Lib.hid hb1; clear hb1)) | fail
  all_goals
    go_wp2
    first | (go_region_held3 (fun w' => w'.cell? ⟨w.heap.size, 0, none⟩ = some (.int .i64 f) ∧ w'.cell? ⟨w.heap.size, 1, none⟩ = some (.int .i64 n) ∧ w'.cell? ⟨pb, 0, none⟩ = some (.pointer (some ⟨rb, 0, none⟩))) (first | (with_reducible exact ⟨q0, q1, q2⟩) | go_keep) ((go_at_call 188; refine (HH.out.1 _ (by exact ⟨HZ.out.os, HZ.out.tape, HZ.out.output, HZ.out.size, HZ.out.block⟩)).mono ?_; rintro e w2 ⟨rfl, hb1, q0, q1, q2⟩; have HZ := Lib.hid hb1; clear hb1))) | fail
    all_goals
      go_wp2
      first | (go_region_held3 (fun w' => w'.cell? ⟨w.heap.size, 0, none⟩ = some (.int .i64 f) ∧ w'.cell? ⟨w.heap.size, 1, none⟩ = some (.int .i64 n) ∧ w'.cell? ⟨pb, 0, none⟩ = some (.pointer (some ⟨rb, 0, none⟩))) (first | (with_reducible exact ⟨p0, p1, p2⟩) | go_keep) ((go_at_call 158; refine (HH.out.2 _ (by exact ⟨HZ.out.os, HZ.out.tape, HZ.out.output, HZ.out.size, HZ.out.block⟩)).mono ?_; rintro e w3 ⟨rfl, hm, hp, p0, p1, p2⟩; have HF := Lib.hid (And.intro hm hp); clear hm hp))) | fail
      all_goals
        go_wp2
        go_ret
        exact ⟨rfl, HF.out⟩
end Go.Proofs.YtcenagpkfimkbaaGreatDoor
namespace Go.Proofs.YtcenagpkfimkbaaGreatDoor
open Go Go.RowKit

def relAll (gs : List Bool) (rs : List (Int × Int)) : List Bool := rs.foldl (fun gs p => markX gs p.1 p.2 false) gs
theorem relAll_succ (gs : List Bool) (rs : List (Int × Int)) {k : Nat} {p : Int × Int} (h : rs[k]? = some p) : relAll gs (rs.take (k + 1)) = markX (relAll gs (rs.take k)) p.1 p.2 false := by
  rw [List.take_add_one, h, relAll, List.foldl_append]
  rfl
def RelOk (gs : List Bool) (rs : List (Int × Int)) : Prop := ∀ (k : Nat) (p : Int × Int), rs[k]? = some p → 1 ≤ p.2 ∧ wholeM (relAll gs (rs.take k)) p.1 p.2 true = true

structure RelInv (w : World) (pb rb rw mb mw : Nat) (gs : List Bool) (ms : List Int) (wr : World) : Prop where
  p : PagesAt wr pb rb rw mb mw gs ms
  m : Moved (fun q => q = rw) w wr

set_option maxRecDepth 100000 in
set_option maxHeartbeats 2000000 in
theorem arRelease_any {w : World} {ab plb pb rb rw mb mw : Nat} {pg us : Int} {vr vt : Value} {rs ts : List (Int × Int)} {gs : List Bool} {ms : List Int} (ha : ArenaAt w ab plb pb pg us vr vt rs ts) (hp : PagesAt w pb rb rw mb mw gs ms) (hN : Nw w) (hnw : rw ≠ 0) (hne : ab ≠ rw) (hnr : ∀ k, vr.ownBlock = some k → k ≠ rw) (hl : rs.length ≤ 100000) (hk : RelOk gs rs) :
    Calls Tryz.prog 113 #[.pointer (some ⟨ab, 0, none⟩)] w fun e w' => e = .returned (.int .i64 0) ∧ Moved (fun q => q = rw ∨ q = ab) w w' ∧ PagesAt w' pb rb rw mb mw (relAll gs rs) ms ∧ ∃ plb2, ArenaAt w' ab plb2 pb (-1) 16 (.slice none 0 0) (.slice none 0 0) [] [] ∧ w.heap.size ≤ plb2 := by
  obtain ⟨ra, rc, rfl, _⟩ := ha.runs.shape
  have c0 := heap_cell ha.blk 0
  have c2 := heap_cell ha.blk 2
  simp at c0 c2
  have hrd := ha.runs.reads
  have HH := Lib.hid (And.intro ha (And.intro hp (And.intro hN (And.intro hnw (And.intro hne (And.intro hnr hk))))))
  have HR := Lib.hid hrd
  clear ha hp hN hnw hne hnr hk hrd
  go_enter Tryz.func113, Tryz.ntmps113
  go_wp2
  go_loopw [11] (fun i wr => ∃ k : Nat, k ≤ rs.length ∧ i = .int .i64 k ∧ Hid (RelInv w pb rb rw mb mw (relAll gs (rs.take k)) ms wr)) (fun i _ => rs.length - (intOf i).toNat)
  case atStart => exact ⟨0, Nat.zero_le _, rfl, Lib.hid ⟨by rw [List.take_zero]; exact HH.out.2.1, Moved.refl _ _⟩⟩
  case round =>
    obtain ⟨k, hk, rfl, HV⟩ := hrel
    by_cases hlt : k < rs.length
    · obtain ⟨p, hp⟩ : ∃ p, rs[k]? = some p := ⟨_, List.getElem?_eq_getElem hlt⟩
      rcases HR.out with hrd | ⟨b, off, rfl, hrc⟩
      · rw [hrd] at hlt; simp at hlt
      have hrk := hrc k hlt
      rw [List.getD_eq_getElem?_getD, hp] at hrk
      simp only [Option.getD_some] at hrk
      have hbn : ¬ b = rw := HH.out.2.2.2.2.2.1 b rfl
      have q0 := HV.out.m.cell hrk.1 hbn
      have q1 := HV.out.m.cell hrk.2 hbn
      have a0 := HV.out.m.cell c0 HH.out.2.2.2.2.1
      have hok := HH.out.2.2.2.2.2.2 k p hp
      have hsucc := relAll_succ gs rs hp
      obtain ⟨x, y⟩ := p
      have hbz : Below wr.heap.size wr (wr.alloc (.cells #[.int .i64 x, .int .i64 y] 160)) := (Below.refl _ _).alloc (Nat.le_refl _) _
      have hbz2 : ∀ nq, Below wr.heap.size wr ((wr.alloc (.cells #[.int .i64 x, .int .i64 y] 160)).drewN nq) := fun nq => hbz.trans ⟨rfl, rfl, rfl, Nat.le_refl _, fun _ _ => rfl⟩
      have hO := fun (nq : Nat) => pBack_any (HV.out.p.later (hbz2 nq)) x y hok.1 hok.2
      have HK := Lib.hid (And.intro hsucc hbz2)
      have hbl : ab < wr.heap.size := cell_lt a0
      clear hrc hrk hbn hok hsucc hp hbz hbz2
      go_wp2
      go_region_with (refine (hO _).mono ?_; rintro e w7 ⟨rfl, hm7, hp7⟩)
      all_goals
        clear hO
        have HN : Hid (RelInv w pb rb rw mb mw (relAll gs (rs.take (k + 1))) ms w7) := Lib.hid ⟨by rw [HK.out.1]; exact hp7, (HV.out.m.trans (Moved.of_below (HK.out.2 _) (fun q => q = rw)) (fun q e => .inl e)).trans hm7 (fun q e => .inl e)⟩
        clear hm7 hp7
        go_wp2
        go_roundw
        case rel => exact ⟨k + 1, by omega, by simp, HN⟩
        case measure => simp [intOf]; omega
    · obtain rfl : k = rs.length := by omega
      have a0 := HV.out.m.cell c0 HH.out.2.2.2.2.1
      have hA := arNew_any pb wr (HH.out.2.2.1.moved HV.out.m (fun e => HH.out.2.2.2.1 e.symm))
      have hblk := HV.out.m.heap HH.out.1.blk HH.out.2.2.2.2.1
      have HB := Lib.hid hblk
      clear hblk
      go_wp2_with fail
      refine hA.mono ?_
      rintro e w3 ⟨ab2, plb2, rfl, hb3, hA3, n1, n2⟩
      have hblk3 := heap_below hb3 HB.out (heap_lt HB.out)
      have k0 := heap_cell hA3.blk 0
      have k1 := heap_cell hA3.blk 1
      have k2 := heap_cell hA3.blk 2
      have k3 := heap_cell hA3.blk 3
      have f0 := heap_cell hblk3 0
      have f1 := heap_cell hblk3 1
      have f2 := heap_cell hblk3 2
      have f3 := heap_cell hblk3 3
      have e0 := heap_free hblk3 0
      have e1 := heap_free hblk3 1
      have e2 := heap_free hblk3 2
      have e3 := heap_free hblk3 3
      simp at k0 k1 k2 k3 f0 f1 f2 f3
      have hx := apart_pages HH.out.1 HH.out.2.1 ab (.inl rfl)
      have HF := Lib.hid (And.intro hb3 (And.intro (HV.out.p.later hb3) hx))
      have HF2 := Lib.hid (And.intro hblk3 (And.intro hA3.plan n2))
      clear hA hb3 hA3 n1 n2 hblk3 hx
      go_wp2
      go_ret
      have hms : ∀ v0 v1 v2 v3 : Value, Moved (fun q => q = ab) w3 ((((w3.setCell ⟨ab, 0, none⟩ v0).setCell ⟨ab, 1, none⟩ v1).setCell ⟨ab, 2, none⟩ v2).setCell ⟨ab, 3, none⟩ v3) := fun v0 v1 v2 v3 => Moved.of_grown (grown_trans (grown_trans (grown_trans (grown_set w3 ab 0 v0) (grown_set _ ab 1 v1)) (grown_set _ ab 2 v2)) (grown_set _ ab 3 v3)) (fun k e => by cases e; rfl)
      have hx := HF.out.2.2
      rw [List.take_length] at HF
      refine ⟨rfl, ((((Moved.refl (fun q => q = rw ∨ q = ab) w).trans HV.out.m (fun q e => .inl (.inl e))).trans (Moved.of_below HF.out.1 (fun _ => False)) (fun q e => e.elim)).trans (hms _ _ _ _) (fun q e => .inl (.inr e))), HF.out.2.1.moved (hms _ _ _ _) (fun e => hx.1 e.symm) (fun e => hx.2.1 e.symm) (fun e => hx.2.2.1 e.symm) (fun e => hx.2.2.2.1 e.symm) (fun e => hx.2.2.2.2 e.symm), plb2, ⟨?_, HF2.out.2.1.moved (hms _ _ _ _) (fun e => ?_), World.ownsRow_nil _ _ _ _, World.ownsRow_nil _ _ _ _, by simp [Value.ownBlock]⟩, Nat.le_trans HV.out.m.size HF2.out.2.2⟩
      · have g := heap_set (heap_set (heap_set (heap_set HF2.out.1 0 (.pointer (some ⟨pb, 0, none⟩))) 1 (.pointer (some ⟨plb2, 0, none⟩))) 2 (.slice none 0 0)) 3 (.slice none 0 0)
        simpa using g
      · have h1 := heap_lt HB.out
        have h2 := HF2.out.2.2
        omega
end Go.Proofs.YtcenagpkfimkbaaGreatDoor
namespace Go.Proofs.YtcenagpkfimkbaaGreatDoor
open Go Go.RowKit

theorem HeapSt.relStep {B : HB} {H : HM} {O0 O1 : Obj} {w : World} {S : Nat → Prop} (h : HeapSt B H O0 O1 w S) {id : Int} (hid : 1 ≤ id) {A : AR} (hA : lk H.ar id = some A) (hl : A.rs.length ≤ 100000) (hk : RelOk H.gs A.rs) :
    ∃ S0 : World → Prop, Calls Tryz.prog 113 #[.pointer (some ⟨A.ab, 0, none⟩)] w (fun e w' => e = .returned (.int .i64 0) ∧ S0 w') ∧
      ∀ w', S0 w' → ∃ A' S', HeapSt B { H with ar := mput H.ar id A', gs := relAll H.gs A.rs } O0 O1 w' S' ∧ Grows S S' w w' := by
  have hris : Rising H.ar := (rising_mapV _ _).1 h.arenas.rising
  obtain ⟨S1, S2, h1, h2, hd, hs, ho, hc⟩ := Sep.open3 (heapP_ok B H O0 O1) h (20 + id.toNat) 2 (by omega) (by omega) (by omega)
  obtain ⟨S3, h3, hd3⟩ := ho 12 (by omega) (by omega) (by omega)
  rw [heapP_arena _ _ _ _ hid, hA] at h1
  obtain ⟨vr, vt, ha, e1⟩ := h1
  obtain ⟨hp, e2⟩ := h2
  have hN := h.tabs.2
  have h0 : S3 0 := (h3.2.2.2.2 _).2 (.inl rfl)
  have hap := apart_pages ha hp
  refine ⟨_, (arRelease_any ha hp hN (fun e => (hd3 _ h0).2 ((e2 _).2 (.inr (.inr (.inl e.symm))))) (hap _ (.inl rfl)).2.2.1 (fun k hk => (hap k (.inr (.inr (.inl hk)))).2.2.1) hl hk).mono (fun e w' hh => hh), ?_⟩
  rintro w' ⟨hm, hp', plb2, ha', hn2⟩
  obtain ⟨S', h', hg⟩ := hc w' (fun k => k = A.ab ∨ k = plb2) S2 (arenaP B.pb (some ⟨A.ab, plb2, -1, 16, [], []⟩)) (PagesP B.pb B.rb B.rw B.mb B.mw (relAll H.gs A.rs) H.ms)
    ⟨_, _, ha', fun k => by simp [Value.ownBlock]⟩ ⟨hp', e2⟩ (fun k hk hk2 => by
      obtain ⟨a1, a2, a3, a4, a5⟩ := apart_pages ha' hp' k (hk.imp_right (fun h => .inl h))
      rcases (e2 k).1 hk2 with e | e | e | e | e
      · exact a1 e
      · exact a2 e
      · exact a3 e
      · exact a4 e
      · exact a5 e)
    ⟨(Moved.refl _ w).trans hm (fun k hk => .inl (by
      rcases hk with e | e
      · exact .inr ((e2 k).2 (.inr (.inr (.inl e))))
      · exact .inl ((e1 k).2 (.inl e)))), fun k hk => by
      rcases hk with (e | e) | e
      · exact .inl (.inl ((e1 k).2 (.inl e)))
      · exact .inr (by rw [e]; exact hn2)
      · exact .inl (.inr e)⟩
  refine ⟨⟨A.ab, plb2, -1, 16, [], []⟩, S', ?_, hg⟩
  have ek : arMap (mput H.ar id ⟨A.ab, plb2, -1, 16, [], []⟩) = arMap H.ar := by
    unfold arMap
    rw [← mput_mapV]
    exact mput_same ((rising_mapV _ _).2 hris) (by rw [lk_mapV, hA]; rfl)
  have : upd (upd (heapP B H O0 O1) (20 + id.toNat) (arenaP B.pb (some ⟨A.ab, plb2, -1, 16, [], []⟩))) 2 (PagesP B.pb B.rb B.rw B.mb B.mw (relAll H.gs A.rs) H.ms) = heapP B { H with ar := mput H.ar id ⟨A.ab, plb2, -1, 16, [], []⟩, gs := relAll H.gs A.rs } O0 O1 := by
    funext j
    by_cases ej : j = 2
    · subst ej
      rw [upd_same]
      rfl
    · rw [upd_ne _ _ ej]
      by_cases e8 : j = 20 + id.toNat
      · subst e8
        rw [upd_same, heapP_arena _ _ _ _ hid]
        simp only [lk_put hris, if_true]
      · rw [upd_ne _ _ e8]
        simp only [heapP]
        rw [if_neg ej, if_neg ej, ek]
        by_cases e20 : 20 < j
        · rw [lk_put hris, if_neg (show ¬ ((j - 20 : Nat) : Int) = id by omega)]
        · rw [if_neg e20, if_neg e20]
  rw [this] at h'
  exact h'

theorem HeapSt.dropArena {B : HB} {H : HM} {O0 O1 : Obj} {w w' : World} {S : Nat → Prop} (h : HeapSt B H O0 O1 w S) {id : Int} (hid : 1 ≤ id)
    (hm : w.mapTurned w' B.am) (hM : MapAt .i64 3 w' B.am (mdel (arMap H.ar) id)) :
    ∃ S', HeapSt B { H with ar := mdel H.ar id } O0 O1 w' S' ∧ Grows S S' w w' := by
  have hris : Rising H.ar := (rising_mapV _ _).1 h.arenas.rising
  obtain ⟨S1, S2, h1, h2, hd, hs, hc⟩ := Sep.open2 (heapP_ok B H O0 O1) h 8 (20 + id.toNat) (by omega) (by omega) (by omega)
  have e1 : ∀ k, S1 k ↔ k = B.am := h1.2
  have hlt : B.am < w.heap.size := (MapP.ok _ _).lt h1 _ ((e1 _).2 rfl)
  obtain ⟨S', h', hg⟩ := hc w' S1 (fun _ => False) (MapP B.am (arMap (mdel H.ar id))) (arenaP B.pb none) ⟨by unfold arMap at hM ⊢; rw [← mdel_mapV]; exact hM, e1⟩ (fun _ e => e) (fun _ _ e => e)
    ⟨(Moved.refl _ w).trans (Moved.turned hm) (fun k e => .inl (.inl ((e1 k).2 e))), fun k hk => hk.elim (fun e => .inl (.inl e)) (fun e => e.elim)⟩
  refine ⟨S', ?_, hg⟩
  have : upd (upd (heapP B H O0 O1) 8 (MapP B.am (arMap (mdel H.ar id)))) (20 + id.toNat) (arenaP B.pb none) = heapP B { H with ar := mdel H.ar id } O0 O1 := by
    funext j
    by_cases ej : j = 20 + id.toNat
    · subst ej
      rw [upd_same, heapP_arena _ _ _ _ hid]
      simp only [lk_del hris, if_true]
    · rw [upd_ne _ _ ej]
      by_cases e8 : j = 8
      · subst e8; rw [upd_same]; rfl
      · rw [upd_ne _ _ e8]
        simp only [heapP]
        rw [if_neg e8, if_neg e8]
        by_cases e20 : 20 < j
        · rw [lk_del hris, if_neg (show ¬ ((j - 20 : Nat) : Int) = id by omega)]
        · rw [if_neg e20, if_neg e20]
  rw [this] at h'
  exact h'
end Go.Proofs.YtcenagpkfimkbaaGreatDoor
namespace Go.Proofs.YtcenagpkfimkbaaGreatDoor
open Go Go.RowKit
attribute [local go_sem ↓] Go.wp_at_zero Go.wp_at_succ

theorem mayD_len {ds : List (List Int)} (h : listD ds = true) : ds.length ≤ 32 ∧ ∀ d ∈ ds, 1 ≤ d.length ∧ d.length ≤ 60 := by
  simp only [listD, Bool.and_eq_true, decide_eq_true_eq, List.all_eq_true] at h
  refine ⟨h.1, fun d hd => ?_⟩
  have := h.2 d hd
  simp only [mayD, Bool.and_eq_true, decide_eq_true_eq] at this
  exact this.1
def Rows5 (w0 : World) (ds : List (List Int)) (v : Value) (w : World) : Prop :=
  ∃ us : List Value, us.length = ds.length ∧ w.ownsRow w0.heap.size 76 1 v us.length us ∧ RowsOf w w0.heap.size us ds

set_option maxRecDepth 100000 in
set_option maxHeartbeats 4000000 in
theorem hNew_any (n g : Nat) (ty : Option Addr) (ds : List (List Int)) (tc : Nat) (O0 O1 : Obj) (ST : Nat → Prop) (w : World) (hT : TabsP O0 O1 w ST) (h1 : 1 ≤ n) (h2 : n ≤ 1024) (h3 : g ≤ 64) (hD : Descs w ty ds) (hl : listD ds = true) :
    Calls Tryz.prog 20 #[.agg #[.int .i64 n, .int .i64 g, .slice ty ds.length tc]] w (NewOut n g ds O0 O1 ST w) := by
  obtain ⟨X, hX⟩ : ∃ X, w.alloc (.cells #[.int .i64 n, .int .i64 g, .slice ty ds.length tc] 24) = X := ⟨_, rfl⟩
  have hbX : Below w.heap.size w X := by rw [← hX]; exact (Below.refl _ _).alloc (Nat.le_refl _) _
  have oX : X.heap[w.heap.size]? = some (.cells #[.int .i64 n, .int .i64 g, .slice ty ds.length tc] 24 (0, 0)) := by rw [← hX]; exact heap_alloc_eq _ _
  have hdl := mayD_len hl
  have HDL := Lib.hid (And.intro hdl hl)
  have k0 := heap_cell oX 0
  have k1 := heap_cell oX 1
  have k2 := heap_cell oX 2
  simp at k0 k1 k2
  have hTX := (TabsP.ok O0 O1).below hT hbX
  have B0 := Beg.start hTX
  have hP := pNewB B0 rfl n h1 h2
  have HB := Lib.hid (And.intro B0 (And.intro hbX (And.intro (hD.below hbX) hTX)))
  clear B0 hT hTX hbX oX hD hdl hl
  go_enter Tryz.func20, Tryz.ntmps20
  go_wp2_with fail
  try rw [hX]
  go_wp2_with fail
  refine hP.mono ?_
  rintro e w1 ⟨pb, rb, rw', mb, mw, rfl, hB1⟩
  have j0 := hB1.cell k0
  have j1 := hB1.cell k1
  have j2 := hB1.cell k2
  have hG := gNewB hB1 rfl g h3
  clear hP hB1
  go_wp2_with fail
  refine hG.mono ?_
  rintro e w2 ⟨gb, gg, rfl, hB2⟩
  have i0 := hB2.cell k0
  have i1 := hB2.cell k1
  have i2 := hB2.cell k2
  have hL := List_any ty ds tc w2 (hB2.sep.elim fun S hS => (Sep.get hS.1 12 (by omega)).elim fun S0 h => h.1.2.2.1) (HB.out.2.2.1.below hB2.below) (fun d hd => by have := HDL.out.1.2 d hd; omega) (by have := HDL.out.1.1; omega)
  rw [HDL.out.2] at hL
  have HB2 := Lib.hid hB2
  clear hG hB2 j0 j1 j2
  go_wp2_with fail
  refine hL.mono ?_
  rintro e w3 ⟨rfl, hb3⟩
  have HB3 := Lib.hid (HB2.out.later hb3)
  have d0 := HB3.out.cell k0
  have d2 := HB3.out.cell k2
  clear hL hb3 i0 i1 i2 k1
  obtain ⟨i0', hi, hz0, hz1, hz2⟩ := info_parts info_int
  obtain ⟨j0', hji, hjz0, hjz1, hjz2⟩ := info_parts info_desc
  have hdl := HDL.out.1.1
  go_wp2
  go_loopw [7, 9, 35] (fun v _ i wr => ∃ j : Nat, j ≤ ds.length ∧ i = .int .i64 j ∧ Rows5 w3 (ds.take j) v wr ∧ Below w3.heap.size w3 wr) (fun _ _ i _ => ds.length - (intOf i).toNat)
  case atStart => exact ⟨0, Nat.zero_le _, rfl, ⟨[], rfl, World.ownsRow_nil _ _ _ _, by simp [RowsOf]⟩, Below.refl _ _⟩
  case round =>
    obtain ⟨j, hj, rfl, ⟨us, hul, hown, hrows⟩, hB⟩ := hrel
    by_cases hlt : j < ds.length
    · obtain ⟨b, off, fa, fc, d, rfl, hx2, hc, hr, hnil⟩ := (HB.out.2.2.1.below (HB3.out.below.trans (hB.mono HB3.out.below.size))).at_ j hlt
      have hdd := HDL.out.1.2 d (List.mem_of_getElem? hx2)
      have hmap : ds.take (j + 1) = ds.take j ++ [d] := by rw [List.take_add_one, hx2]; rfl
      cases fa with
      | none => obtain ⟨rfl, _⟩ := hnil rfl; simp at hdd
      | some fad =>
        have HUL := Lib.hid hul
        have hba : Below wr.heap.size wr (wr.alloc (.cells #[.slice (some fad) d.length fc] 76)) := (Below.refl _ _).alloc (Nat.le_refl _) _
        have HO := Lib.hid (And.intro ((Moved.of_below hba (fun _ => False)).owns hown (fun _ _ e => e)) (And.intro (hrows.below hba) (And.intro (hB.trans (hba.mono hB.size)) (And.intro (hr.below hba) hmap))))
        have hcs := Lib.hid (cells_of_reads (hr.below hba))
        obtain ⟨W0, hW0⟩ : ∃ W0, W0 = wr.alloc (.cells #[.slice (some fad) d.length fc] 76) := ⟨_, rfl⟩
        have hc0 : W0.cell? ⟨wr.heap.size, 0, none⟩ = some (.slice (some fad) d.length fc) := by rw [hW0, heap_cell (heap_alloc_eq _ _)]; rfl
        have HW0 := Lib.hid hW0
        clear hown hrows hx2 hr hba hmap hul hB hnil
        rw [← hW0] at HO hcs
        clear hW0
        go_wp2_with (at_builtin; refine wpList_append_own _ rfl _ _ 58 rfl (wr.heap.size + 1) 3 i0' (.int .i64 0) 1 8 Tryz.underlying58 hi hz0 hz1 hz2 rfl (by decide) (.slice none 0 0) 0 [] (by rfl) (World.ownsRow_nil _ _ _ _) fad d.length fc (d.map (Value.int .i64)) (by rfl) (by simp) (HW0.out ▸ hcs.out) (ints_oneCell _ _) (by unfold maxLen; omega) (by omega) (by simp) ?_)
        intro v' w5 hown' hgrow _
        rw [← HW0.out] at hgrow
        rw [show wr.heap.size + 1 = W0.heap.size by rw [HW0.out]; simp] at hown'
        obtain ⟨u, hu⟩ : ∃ u, u = v' := ⟨_, rfl⟩
        have hB5 : Below W0.heap.size W0 w5 := (Below.refl _ _).grown hgrow (Nat.le_refl _) (fun k e => by simp [Value.ownBlock] at e)
        have hrow : w5.ownsRow W0.heap.size 3 1 v' d.length (d.map (Value.int .i64)) := by simpa using hown'
        obtain ⟨af, cf, rfl, _, _, _⟩ := owns_slice hrow
        have hownO := (Moved.of_below hB5 (fun _ => False)).owns HO.out.1 (fun _ _ e => e)
        have hrowsO := HO.out.2.1.below hB5
        have hBw := HO.out.2.2.1.trans (hB5.mono HO.out.2.2.1.size)
        have hrow2 := owns_le2 hrow HO.out.2.2.1.size
        have hul2 : us.length ≤ 32 := by have := HUL.out; simp at this; omega
        have HX := Lib.hid (And.intro hrow2 hrowsO)
        clear hown' hgrow hrow hrow2 hrowsO hu hB5 hcs
        go_wp2_with (at_builtin; refine wpList_append_own _ rfl _ _ 22 rfl w3.heap.size 76 j0' (.agg #[.slice none 0 0]) 1 24 Tryz.underlying22 hji hjz0 hjz1 hjz2 rfl (by decide) _ _ _ (by rfl) (hownO.alloc _) ⟨w5.heap.size, 0, none⟩ 1 1 [.slice af d.length cf] (by rfl) rfl (new_cellD _ _ _) (one_okD _ rfl) (by unfold maxLen; omega) (by omega) (by have := hBw.size; simp; omega) ?_)
        intro v' w1 hown' hgrow _
        have hba : Below w5.heap.size w5 (w5.alloc (.cells #[.slice af d.length cf] 76)) := (Below.refl _ _).alloc (Nat.le_refl _) _
        have hB1 := (hBw.alloc hBw.size (.cells #[.slice af d.length cf] 76)).grown hgrow (by have := hBw.size; simp; omega) (fun k e => (hownO.lt k e).1)
        have hr1 := ((HX.out.2.below hba).grown (hownO.alloc _) (by decide) hgrow).snoc (((Moved.of_below hba (fun _ => False)).owns HX.out.1 (fun _ _ e => e)).kept hgrow (owns_ne ((Moved.of_below hba (fun _ => False)).owns HX.out.1 (fun _ _ e => e)) (hownO.alloc _) (by decide)))
        rw [← HO.out.2.2.2.2] at hr1
        have ho2 : w1.ownsRow w3.heap.size 76 1 v' (us ++ [Value.slice af d.length cf]).length (us ++ [Value.slice af d.length cf]) := by
          simpa using hown'
        have HR1 : Hid (Rows5 w3 (ds.take (j + 1)) v' w1) := Lib.hid ⟨_, by rw [List.length_append, HUL.out]; simp; omega, ho2, hr1⟩
        clear hr1 ho2 hown' hgrow hba hownO hBw
        go_wp2
        go_roundw
        case rel => exact ⟨j + 1, by omega, by go_num, HR1.out, hB1⟩
        case measure => simp [intOf]; omega
    · obtain rfl : j = ds.length := by omega
      rw [List.take_length] at hrows hul
      obtain ⟨ta, tcc, rfl, hTy⟩ := typesP_of_rows hown hrows
      have B5 := HB3.out.add 5 (by omega) rfl (TypesP.ok _ _) hTy hB (fun k hk => hk.1)
      have e0 := B5.cell k0
      have HB5 := Lib.hid B5
      clear hown hrows hul hTy hB B5 d0 d2 k2 hdl hi hz0 hz1 hz2 hji hjz0 hjz1 hjz2
      have hmm := @run_makeMap Tryz.prog
      have y1 : IntKind.i64.wrap ((n : Int) * 16) = ((n * 16 : Nat) : Int) := by rw [IntKind.wrap_i64]; omega
      have h4 : n * 16 ≤ 16384 := by omega
      go_wp2
      go_region_held3 (fun w' => w'.cell? ⟨w.heap.size, 0, none⟩ = some (.int .i64 n)) (first | assumption | exact (cell_alloc_old _ (by assumption)) | go_keep) (first | (refine (oNewB (by first | exact HB5.out | exact HB5.out.map (by rfl) | exact HB5.out.drew _ | exact HB5.out.drew1 | exact (HB5.out.drew _).map (by rfl) | exact (HB5.out.drew1).map (by rfl) | exact (HB5.out.map (by rfl)).drew _ | exact (HB5.out.map (by rfl)).drew1) (by rfl) n h2).mono ?_; rintro e wO ⟨ob, om, rfl, hBn⟩; have e0 := hBn.cell k0; have HB5 := Lib.hid hBn; clear hBn) | (refine (stNewB (by first | exact HB5.out | exact HB5.out.map (by rfl) | exact HB5.out.drew _ | exact HB5.out.drew1 | exact (HB5.out.drew _).map (by rfl) | exact (HB5.out.drew1).map (by rfl) | exact (HB5.out.map (by rfl)).drew _ | exact (HB5.out.map (by rfl)).drew1) (by rfl) (n * 16) h4).mono ?_; rintro e wS ⟨sb, srb, srw, rfl, hBn⟩; have e0 := hBn.cell k0; have HB5 := Lib.hid hBn; clear hBn) | (refine (iNewB (by first | exact HB5.out | exact HB5.out.map (by rfl) | exact HB5.out.drew _ | exact HB5.out.drew1 | exact (HB5.out.drew _).map (by rfl) | exact (HB5.out.drew1).map (by rfl) | exact (HB5.out.map (by rfl)).drew _ | exact (HB5.out.map (by rfl)).drew1) (by rfl)).mono ?_; rintro e wI ⟨bb, bm, rfl, hBn⟩; have e0 := hBn.cell k0; have HB5 := Lib.hid hBn; clear hBn) | (refine (trNewB (by first | exact HB5.out | exact HB5.out.map (by rfl) | exact HB5.out.drew _ | exact HB5.out.drew1 | exact (HB5.out.drew _).map (by rfl) | exact (HB5.out.drew1).map (by rfl) | exact (HB5.out.map (by rfl)).drew _ | exact (HB5.out.map (by rfl)).drew1) (by rfl)).mono ?_; rintro e wT ⟨tb, tm, rfl, hBn⟩; have e0 := hBn.cell k0; have HB5 := Lib.hid hBn; clear hBn) | (refine (taNewB (by first | exact HB5.out | exact HB5.out.map (by rfl) | exact HB5.out.drew _ | exact HB5.out.drew1 | exact (HB5.out.drew _).map (by rfl) | exact (HB5.out.drew1).map (by rfl) | exact (HB5.out.map (by rfl)).drew _ | exact (HB5.out.map (by rfl)).drew1) (by rfl)).mono ?_; rintro e wC ⟨cb, cm, rfl, hBn⟩; have e0 := hBn.cell k0; have HB5 := Lib.hid hBn; clear hBn) | (refine (frNewB (by first | exact HB5.out | exact HB5.out.map (by rfl) | exact HB5.out.drew _ | exact HB5.out.drew1 | exact (HB5.out.drew _).map (by rfl) | exact (HB5.out.drew1).map (by rfl) | exact (HB5.out.map (by rfl)).drew _ | exact (HB5.out.map (by rfl)).drew1) (by rfl)).mono ?_; rintro e wF ⟨fb, rfl, hBn⟩; have e0 := hBn.cell k0; have HB5 := Lib.hid hBn; clear hBn))
      all_goals
        go_wp2
        go_ret2
        first | exact newOut_end HB.out.2.1 HB5.out rfl (by rfl) (by rfl) (by rfl) (by rfl) (by rfl) (by rfl) (by rfl) (by rfl) (by rfl) (by rfl) (by rfl) (by rfl) | exact newOut_end HB.out.2.1 (HB5.out.map (by rfl)) (by simp) (by rfl) (by rfl) (by rfl) (by rfl) (by rfl) (by rfl) (by rfl) (by rfl) (by rfl) (by rfl) (by rfl) (by rfl)
end Go.Proofs.YtcenagpkfimkbaaGreatDoor
