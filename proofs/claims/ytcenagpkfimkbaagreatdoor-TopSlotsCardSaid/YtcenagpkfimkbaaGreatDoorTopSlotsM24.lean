/-
  Contracts of functions of the program, laid together.
-/
import Derived.Test.YtcenagpkfimkbaaGreatDoorTopSlotsM1
import Derived.Laws.EntriesVeiled
namespace Go.Proofs.YtcenagpkfimkbaaGreatDoor
open Go Go.RowKit

abbrev fnV (f : Nat) : Value := .func (.func f) #[] #[]
abbrev clV (f b : Nat) : Value := .func (.func f) #[] #[.pointer (some ⟨b, 0, none⟩)]

theorem some_any (f : Nat) (w : World) :
    Calls Tryz.prog 56 #[fnV f] w fun e w' => e = .returned (.agg #[clV 100 w.heap.size]) ∧ Below w.heap.size w w' ∧ w'.cell? ⟨w.heap.size, 0, none⟩ = some (fnV f) ∧ w.heap.size < w'.heap.size := by
  go_enter Tryz.func56, Tryz.ntmps56
  go_wp2
  refine bodyPost_ret (v := .agg #[.func (.func 100) #[] #[.pointer (some ⟨w.heap.size, 0, none⟩)]]) (by simp [results, Tryz.results56, go_sem]) rfl ⟨rfl, ((Below.refl _ _).alloc (Nat.le_refl _) _).alloc (by simp) _, ?_, by simp; omega⟩
  exact (World.cell?_of_block (Below.heap_alloc _ _ w.heap.size (by simp))).trans (by simp [heap_cell (heap_alloc_eq w (.cells #[.func (.func f) #[] #[]] 148)) 0])

theorem none_any (f : Nat) (w : World) :
    Calls Tryz.prog 60 #[fnV f] w fun e w' => e = .returned (.agg #[clV 105 w.heap.size]) ∧ Below w.heap.size w w' ∧ w'.cell? ⟨w.heap.size, 0, none⟩ = some (fnV f) ∧ w.heap.size < w'.heap.size := by
  go_enter Tryz.func60, Tryz.ntmps60
  go_wp2
  refine bodyPost_ret (v := .agg #[.func (.func 105) #[] #[.pointer (some ⟨w.heap.size, 0, none⟩)]]) (by simp [results, Tryz.results60, go_sem]) rfl ⟨rfl, ((Below.refl _ _).alloc (Nat.le_refl _) _).alloc (by simp) _, ?_, by simp; omega⟩
  exact (World.cell?_of_block (Below.heap_alloc _ _ w.heap.size (by simp))).trans (by simp [heap_cell (heap_alloc_eq w (.cells #[.func (.func f) #[] #[]] 151)) 0])

def set16 (w : World) (g : Nat) (v0 v1 v2 v3 v4 v5 v6 v7 v8 v9 v10 v11 v12 v13 v14 v15 : Value) : World :=
  (((((((((((((((w.setCell ⟨g, 0, none⟩ v0).setCell ⟨g, 1, none⟩ v1).setCell ⟨g, 2, none⟩ v2).setCell ⟨g, 3, none⟩ v3).setCell ⟨g, 4, none⟩ v4).setCell ⟨g, 5, none⟩ v5).setCell ⟨g, 6, none⟩ v6).setCell ⟨g, 7, none⟩ v7).setCell ⟨g, 8, none⟩ v8).setCell ⟨g, 9, none⟩ v9).setCell ⟨g, 10, none⟩ v10).setCell ⟨g, 11, none⟩ v11).setCell ⟨g, 12, none⟩ v12).setCell ⟨g, 13, none⟩ v13).setCell ⟨g, 14, none⟩ v14).setCell ⟨g, 15, none⟩ v15
theorem set16_at {w : World} {g : Nat} {u0 u1 u2 u3 u4 u5 u6 u7 u8 u9 u10 u11 u12 u13 u14 u15 : Value} {t : TypeId} (h : w.heap[g]? = some (.cells #[u0, u1, u2, u3, u4, u5, u6, u7, u8, u9, u10, u11, u12, u13, u14, u15] t (0, 0))) (v0 v1 v2 v3 v4 v5 v6 v7 v8 v9 v10 v11 v12 v13 v14 v15 : Value) :
    (set16 w g v0 v1 v2 v3 v4 v5 v6 v7 v8 v9 v10 v11 v12 v13 v14 v15).heap[g]? = some (.cells #[v0, v1, v2, v3, v4, v5, v6, v7, v8, v9, v10, v11, v12, v13, v14, v15] t (0, 0)) ∧ w.grownBy (set16 w g v0 v1 v2 v3 v4 v5 v6 v7 v8 v9 v10 v11 v12 v13 v14 v15) (some g) := by
  refine ⟨?_, ?_⟩
  · have := heap_set (heap_set (heap_set (heap_set (heap_set (heap_set (heap_set (heap_set (heap_set (heap_set (heap_set (heap_set (heap_set (heap_set (heap_set (heap_set h 0 v0) 1 v1) 2 v2) 3 v3) 4 v4) 5 v5) 6 v6) 7 v7) 8 v8) 9 v9) 10 v10) 11 v11) 12 v12) 13 v13) 14 v14) 15 v15
    simpa [set16] using this
  · exact grown_trans (grown_trans (grown_trans (grown_trans (grown_trans (grown_trans (grown_trans (grown_trans (grown_trans (grown_trans (grown_trans (grown_trans (grown_trans (grown_trans (grown_trans (grown_set w g 0 v0) (grown_set _ g 1 v1)) (grown_set _ g 2 v2)) (grown_set _ g 3 v3)) (grown_set _ g 4 v4)) (grown_set _ g 5 v5)) (grown_set _ g 6 v6)) (grown_set _ g 7 v7)) (grown_set _ g 8 v8)) (grown_set _ g 9 v9)) (grown_set _ g 10 v10)) (grown_set _ g 11 v11)) (grown_set _ g 12 v12)) (grown_set _ g 13 v13)) (grown_set _ g 14 v14)) (grown_set _ g 15 v15)
def ActsOut (w : World) (e : Ending) (w' : World) : Prop :=
  ∃ b1 b3 b6 b7 b8 b9 b10 b11 b12 b13 b14 b15 : Nat, e = .returned (.agg #[.nilFunc, clV 100 b1, fnV 59, clV 105 b3, fnV 63, fnV 64, clV 105 b6, clV 100 b7, clV 105 b8, clV 100 b9, clV 105 b10, clV 105 b11, clV 105 b12, clV 100 b13, clV 100 b14, clV 100 b15]) ∧ Below w.heap.size w w' ∧ (w'.cell? ⟨b1, 0, none⟩ = some (fnV 57) ∧ w.heap.size < b1) ∧ (w'.cell? ⟨b3, 0, none⟩ = some (fnV 61) ∧ w.heap.size < b3) ∧ (w'.cell? ⟨b6, 0, none⟩ = some (fnV 65) ∧ w.heap.size < b6) ∧ (w'.cell? ⟨b7, 0, none⟩ = some (fnV 67) ∧ w.heap.size < b7) ∧ (w'.cell? ⟨b8, 0, none⟩ = some (fnV 69) ∧ w.heap.size < b8) ∧ (w'.cell? ⟨b9, 0, none⟩ = some (fnV 71) ∧ w.heap.size < b9) ∧ (w'.cell? ⟨b10, 0, none⟩ = some (fnV 73) ∧ w.heap.size < b10) ∧ (w'.cell? ⟨b11, 0, none⟩ = some (fnV 75) ∧ w.heap.size < b11) ∧ (w'.cell? ⟨b12, 0, none⟩ = some (fnV 77) ∧ w.heap.size < b12) ∧ (w'.cell? ⟨b13, 0, none⟩ = some (fnV 79) ∧ w.heap.size < b13) ∧ (w'.cell? ⟨b14, 0, none⟩ = some (fnV 81) ∧ w.heap.size < b14) ∧ (w'.cell? ⟨b15, 0, none⟩ = some (fnV 83) ∧ w.heap.size < b15)

set_option maxRecDepth 100000 in
set_option maxHeartbeats 4000000 in
theorem actions_any (w : World) : Calls Tryz.prog 29 #[] w (ActsOut w) := by
  go_enter Tryz.func29, Tryz.ntmps29
  go_wp2_with fail
  refine (some_any _ _).mono ?_
  rintro e w1 ⟨rfl, hb1, hc1, hl1⟩
  have hb0 : Below w.heap.size w w1 := ((Below.refl _ _).alloc (Nat.le_refl _) _).trans (hb1.mono (by simp))
  go_wp2_with fail
  refine (none_any _ _).mono ?_
  rintro e w3 ⟨rfl, hb3, hc3, hl3⟩
  go_wp2_with fail
  refine (none_any _ _).mono ?_
  rintro e w6 ⟨rfl, hb6, hc6, hl6⟩
  go_wp2_with fail
  refine (some_any _ _).mono ?_
  rintro e w7 ⟨rfl, hb7, hc7, hl7⟩
  go_wp2_with fail
  refine (none_any _ _).mono ?_
  rintro e w8 ⟨rfl, hb8, hc8, hl8⟩
  go_wp2_with fail
  refine (some_any _ _).mono ?_
  rintro e w9 ⟨rfl, hb9, hc9, hl9⟩
  go_wp2_with fail
  refine (none_any _ _).mono ?_
  rintro e w10 ⟨rfl, hb10, hc10, hl10⟩
  go_wp2_with fail
  refine (none_any _ _).mono ?_
  rintro e w11 ⟨rfl, hb11, hc11, hl11⟩
  go_wp2_with fail
  refine (none_any _ _).mono ?_
  rintro e w12 ⟨rfl, hb12, hc12, hl12⟩
  go_wp2_with fail
  refine (some_any _ _).mono ?_
  rintro e w13 ⟨rfl, hb13, hc13, hl13⟩
  go_wp2_with fail
  refine (some_any _ _).mono ?_
  rintro e w14 ⟨rfl, hb14, hc14, hl14⟩
  go_wp2_with fail
  refine (some_any _ _).mono ?_
  rintro e w15 ⟨rfl, hb15, hc15, hl15⟩
  have B15 : Below w15.heap.size w15 w15 := Below.refl _ _
  have B14 : Below w14.heap.size w14 w15 := hb15.trans (B15.mono hb15.size)
  have B13 : Below w13.heap.size w13 w15 := hb14.trans (B14.mono hb14.size)
  have B12 : Below w12.heap.size w12 w15 := hb13.trans (B13.mono hb13.size)
  have B11 : Below w11.heap.size w11 w15 := hb12.trans (B12.mono hb12.size)
  have B10 : Below w10.heap.size w10 w15 := hb11.trans (B11.mono hb11.size)
  have B9 : Below w9.heap.size w9 w15 := hb10.trans (B10.mono hb10.size)
  have B8 : Below w8.heap.size w8 w15 := hb9.trans (B9.mono hb9.size)
  have B7 : Below w7.heap.size w7 w15 := hb8.trans (B8.mono hb8.size)
  have B6 : Below w6.heap.size w6 w15 := hb7.trans (B7.mono hb7.size)
  have B3 : Below w3.heap.size w3 w15 := hb6.trans (B6.mono hb6.size)
  have B1 : Below w1.heap.size w1 w15 := hb3.trans (B3.mono hb3.size)
  have oX : w15.heap[w.heap.size]? = some (.cells #[.nilFunc, .nilFunc, .nilFunc, .nilFunc, .nilFunc, .nilFunc, .nilFunc, .nilFunc, .nilFunc, .nilFunc, .nilFunc, .nilFunc, .nilFunc, .nilFunc, .nilFunc, .nilFunc] 94 (0, 0)) := (B1.block _ (by have := hb1.size; simp at this; omega)).trans ((hb1.block _ (by simp)).trans (heap_alloc_eq _ _))
  have hbw : Below w.heap.size w w15 := hb0.trans (B1.mono hb0.size)
  have g1 := (B1.cell (cell_lt hc1)).trans hc1
  have g3 := (B3.cell (cell_lt hc3)).trans hc3
  have g6 := (B6.cell (cell_lt hc6)).trans hc6
  have g7 := (B7.cell (cell_lt hc7)).trans hc7
  have g8 := (B8.cell (cell_lt hc8)).trans hc8
  have g9 := (B9.cell (cell_lt hc9)).trans hc9
  have g10 := (B10.cell (cell_lt hc10)).trans hc10
  have g11 := (B11.cell (cell_lt hc11)).trans hc11
  have g12 := (B12.cell (cell_lt hc12)).trans hc12
  have g13 := (B13.cell (cell_lt hc13)).trans hc13
  have g14 := (B14.cell (cell_lt hc14)).trans hc14
  have g15 := (B15.cell (cell_lt hc15)).trans hc15
  have H := Lib.hid (And.intro hbw (And.intro g1 (And.intro g3 (And.intro g6 (And.intro g7 (And.intro g8 (And.intro g9 (And.intro g10 (And.intro g11 (And.intro g12 (And.intro g13 (And.intro g14 (And.intro g15 oX)))))))))))))
  have c0 := heap_cell oX 0
  have f0 := heap_free oX 0
  have c1 := heap_cell oX 1
  have f1 := heap_free oX 1
  have c2 := heap_cell oX 2
  have f2 := heap_free oX 2
  have c3 := heap_cell oX 3
  have f3 := heap_free oX 3
  have c4 := heap_cell oX 4
  have f4 := heap_free oX 4
  have c5 := heap_cell oX 5
  have f5 := heap_free oX 5
  have c6 := heap_cell oX 6
  have f6 := heap_free oX 6
  have c7 := heap_cell oX 7
  have f7 := heap_free oX 7
  have c8 := heap_cell oX 8
  have f8 := heap_free oX 8
  have c9 := heap_cell oX 9
  have f9 := heap_free oX 9
  have c10 := heap_cell oX 10
  have f10 := heap_free oX 10
  have c11 := heap_cell oX 11
  have f11 := heap_free oX 11
  have c12 := heap_cell oX 12
  have f12 := heap_free oX 12
  have c13 := heap_cell oX 13
  have f13 := heap_free oX 13
  have c14 := heap_cell oX 14
  have f14 := heap_free oX 14
  have c15 := heap_cell oX 15
  have f15 := heap_free oX 15
  simp at c0 c1 c2 c3 c4 c5 c6 c7 c8 c9 c10 c11 c12 c13 c14 c15
  have s3 := hb3.size; have s6 := hb6.size; have s7 := hb7.size; have s8 := hb8.size; have s9 := hb9.size; have s10 := hb10.size; have s11 := hb11.size; have s12 := hb12.size; have s13 := hb13.size; have s14 := hb14.size; have s15 := hb15.size; have s1 := hb1.size; simp at s1
  have HS : Hid (w.heap.size < w1.heap.size ∧ w.heap.size < w3.heap.size ∧ w.heap.size < w6.heap.size ∧ w.heap.size < w7.heap.size ∧ w.heap.size < w8.heap.size ∧ w.heap.size < w9.heap.size ∧ w.heap.size < w10.heap.size ∧ w.heap.size < w11.heap.size ∧ w.heap.size < w12.heap.size ∧ w.heap.size < w13.heap.size ∧ w.heap.size < w14.heap.size ∧ w.heap.size < w15.heap.size) := Lib.hid ⟨by omega, by omega, by omega, by omega, by omega, by omega, by omega, by omega, by omega, by omega, by omega, by omega⟩
  clear s1 s3 s6 s7 s8 s9 s10 s11 s12 s13 s14 s15
  clear hbw hb0 oX hb1 hc1 hl1 g1 B1 hb3 hc3 hl3 g3 B3 hb6 hc6 hl6 g6 B6 hb7 hc7 hl7 g7 B7 hb8 hc8 hl8 g8 B8 hb9 hc9 hl9 g9 B9 hb10 hc10 hl10 g10 B10 hb11 hc11 hl11 g11 B11 hb12 hc12 hl12 g12 B12 hb13 hc13 hl13 g13 B13 hb14 hc14 hl14 g14 B14 hb15 hc15 hl15 g15 B15
  go_wp2_with fail
  have h16 := set16_at H.out.2.2.2.2.2.2.2.2.2.2.2.2.2 (.nilFunc) (clV 100 (w.heap.size + 1)) (fnV 59) (clV 105 w1.heap.size) (fnV 63) (fnV 64) (clV 105 w3.heap.size) (clV 100 w6.heap.size) (clV 105 w7.heap.size) (clV 100 w8.heap.size) (clV 105 w9.heap.size) (clV 105 w10.heap.size) (clV 105 w11.heap.size) (clV 100 w12.heap.size) (clV 100 w13.heap.size) (clV 100 w14.heap.size)
  have e16 : Hid (set16 w15 w.heap.size (.nilFunc) (clV 100 (w.heap.size + 1)) (fnV 59) (clV 105 w1.heap.size) (fnV 63) (fnV 64) (clV 105 w3.heap.size) (clV 100 w6.heap.size) (clV 105 w7.heap.size) (clV 100 w8.heap.size) (clV 105 w9.heap.size) (clV 105 w10.heap.size) (clV 105 w11.heap.size) (clV 100 w12.heap.size) (clV 100 w13.heap.size) (clV 100 w14.heap.size) = set16 w15 w.heap.size (.nilFunc) (clV 100 (w.heap.size + 1)) (fnV 59) (clV 105 w1.heap.size) (fnV 63) (fnV 64) (clV 105 w3.heap.size) (clV 100 w6.heap.size) (clV 105 w7.heap.size) (clV 100 w8.heap.size) (clV 105 w9.heap.size) (clV 105 w10.heap.size) (clV 105 w11.heap.size) (clV 100 w12.heap.size) (clV 100 w13.heap.size) (clV 100 w14.heap.size)) := Lib.hid rfl
  change bodyPost _ _ _ _ _ (set16 w15 w.heap.size (.nilFunc) (clV 100 (w.heap.size + 1)) (fnV 59) (clV 105 w1.heap.size) (fnV 63) (fnV 64) (clV 105 w3.heap.size) (clV 100 w6.heap.size) (clV 105 w7.heap.size) (clV 100 w8.heap.size) (clV 105 w9.heap.size) (clV 105 w10.heap.size) (clV 105 w11.heap.size) (clV 100 w12.heap.size) (clV 100 w13.heap.size) (clV 100 w14.heap.size))
  generalize set16 w15 w.heap.size (.nilFunc) (clV 100 (w.heap.size + 1)) (fnV 59) (clV 105 w1.heap.size) (fnV 63) (fnV 64) (clV 105 w3.heap.size) (clV 100 w6.heap.size) (clV 105 w7.heap.size) (clV 100 w8.heap.size) (clV 105 w9.heap.size) (clV 105 w10.heap.size) (clV 105 w11.heap.size) (clV 100 w12.heap.size) (clV 100 w13.heap.size) (clV 100 w14.heap.size) = Z at h16 ⊢
  obtain ⟨oZ, gZ⟩ := h16
  clear e16
  have HZ := Lib.hid (And.intro oZ gZ)
  have z0 := heap_cell oZ 0
  have z1 := heap_cell oZ 1
  have z2 := heap_cell oZ 2
  have z3 := heap_cell oZ 3
  have z4 := heap_cell oZ 4
  have z5 := heap_cell oZ 5
  have z6 := heap_cell oZ 6
  have z7 := heap_cell oZ 7
  have z8 := heap_cell oZ 8
  have z9 := heap_cell oZ 9
  have z10 := heap_cell oZ 10
  have z11 := heap_cell oZ 11
  have z12 := heap_cell oZ 12
  have z13 := heap_cell oZ 13
  have z14 := heap_cell oZ 14
  have z15 := heap_cell oZ 15
  simp at z0 z1 z2 z3 z4 z5 z6 z7 z8 z9 z10 z11 z12 z13 z14 z15
  clear oZ gZ
  refine bodyPost_ret (v := .agg #[.nilFunc, clV 100 (w.heap.size + 1), fnV 59, clV 105 w1.heap.size, fnV 63, fnV 64, clV 105 w3.heap.size, clV 100 w6.heap.size, clV 105 w7.heap.size, clV 100 w8.heap.size, clV 105 w9.heap.size, clV 105 w10.heap.size, clV 105 w11.heap.size, clV 100 w12.heap.size, clV 100 w13.heap.size, clV 100 w14.heap.size]) (by simp [results, Tryz.results29, go_sem, z0, z1, z2, z3, z4, z5, z6, z7, z8, z9, z10, z11, z12, z13, z14, z15]) rfl ?_
  obtain ⟨q1, q3, q6, q7, q8, q9, q10, q11, q12, q13, q14, q15⟩ := HS.out
  have hb := H.out.1.grown HZ.out.2 H.out.1.size (fun k e => by cases e; exact Nat.le_refl _)
  have hk := fun (b : Nat) (v : Value) (hb : w.heap.size < b) (h : w15.cell? ⟨b, 0, none⟩ = some v) => (World.cell?_of_block (a := ⟨b, 0, none⟩) (HZ.out.2.block b (cell_lt h) (by simp; omega))).trans h
  exact ⟨(w.heap.size + 1), w1.heap.size, w3.heap.size, w6.heap.size, w7.heap.size, w8.heap.size, w9.heap.size, w10.heap.size, w11.heap.size, w12.heap.size, w13.heap.size, w14.heap.size, rfl, hb, ⟨hk _ _ (by omega) (by have h := H.out.2.1; rw [show (w.alloc (.cells #[.nilFunc, .nilFunc, .nilFunc, .nilFunc, .nilFunc, .nilFunc, .nilFunc, .nilFunc, .nilFunc, .nilFunc, .nilFunc, .nilFunc, .nilFunc, .nilFunc, .nilFunc, .nilFunc] 94)).heap.size = w.heap.size + 1 by simp] at h; exact h), by omega⟩, ⟨hk _ _ (by omega) H.out.2.2.1, by omega⟩, ⟨hk _ _ (by omega) H.out.2.2.2.1, by omega⟩, ⟨hk _ _ (by omega) H.out.2.2.2.2.1, by omega⟩, ⟨hk _ _ (by omega) H.out.2.2.2.2.2.1, by omega⟩, ⟨hk _ _ (by omega) H.out.2.2.2.2.2.2.1, by omega⟩, ⟨hk _ _ (by omega) H.out.2.2.2.2.2.2.2.1, by omega⟩, ⟨hk _ _ (by omega) H.out.2.2.2.2.2.2.2.2.1, by omega⟩, ⟨hk _ _ (by omega) H.out.2.2.2.2.2.2.2.2.2.1, by omega⟩, ⟨hk _ _ (by omega) H.out.2.2.2.2.2.2.2.2.2.2.1, by omega⟩, ⟨hk _ _ (by omega) H.out.2.2.2.2.2.2.2.2.2.2.2.1, by omega⟩, ⟨hk _ _ (by omega) H.out.2.2.2.2.2.2.2.2.2.2.2.2.1, by omega⟩⟩
end Go.Proofs.YtcenagpkfimkbaaGreatDoor
