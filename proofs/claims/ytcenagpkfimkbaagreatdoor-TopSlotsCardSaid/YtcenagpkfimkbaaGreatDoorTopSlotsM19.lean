/-
  Contracts of functions of the program, laid together.
-/
import Derived.Test.YtcenagpkfimkbaaGreatDoorTopSlotsM2
import Derived.Test.YtcenagpkfimkbaaGreatDoorTopSlotsM3
import Derived.Deep.RegionHeld3
namespace Go.Proofs.YtcenagpkfimkbaaGreatDoor
open Go Go.RowKit

def puB (_f k : Int) (a : Bool) (q t n : Int) : Bool := mayB a q t n && decide (k = sizeI a q t n)
def puE (xs : List Int) (f k : Int) (a : Bool) (q t n : Int) : Int := if puB f k a q t n = true then (if hasB xs.length f k = true then wrE xs.length f else 8) else 1
def puL (xs : List Int) (f k : Int) (a : Bool) (q t n : Int) : List Int := if puB f k a q t n = true then (if hasB xs.length f k = true then wrL (fillL xs f k 0) f (putW a q t n) else xs) else xs
theorem puL_length (xs : List Int) (f k : Int) (a : Bool) (q t n : Int) : (puL xs f k a q t n).length = xs.length := by
  unfold puL
  split
  · split
    · rw [wrL_length, fillL_length]
    · rfl
  · rfl

structure PuInv (w0 : World) (f k : Int) (a : Bool) (q t n : Int) (w : World) : Prop where
  r : w.heap[w0.heap.size]? = some (.cells #[.int .i64 f, .int .i64 k] 160 (0, 0))
  h : w.heap[w0.heap.size + 1]? = some (.cells #[.bool a, .int .i64 q, .int .i64 t, .int .i64 n] 85 (0, 0))
  t : Tab w
  b : Below w0.heap.size w0 w
theorem PuInv.below {w0 : World} {f k : Int} {a : Bool} {q t n : Int} {w w' : World} (h : PuInv w0 f k a q t n w) (hb : Below w.heap.size w w') : PuInv w0 f k a q t n w' :=
  ⟨heap_below hb h.r (heap_lt h.r), heap_below hb h.h (heap_lt h.h), h.t.below h.t.lt hb, h.b.trans (hb.mono h.b.size)⟩
theorem pu_cells {w0 : World} {f k : Int} {a : Bool} {q t n : Int} {w : World} (h : PuInv w0 f k a q t n w) : w.cell? ⟨w0.heap.size, 0, none⟩ = some (.int .i64 f) ∧ w.cell? ⟨w0.heap.size, 1, none⟩ = some (.int .i64 k) ∧ w.cell? ⟨w0.heap.size + 1, 0, none⟩ = some (.bool a) ∧ w.cell? ⟨w0.heap.size + 1, 1, none⟩ = some (.int .i64 q) ∧ w.cell? ⟨w0.heap.size + 1, 2, none⟩ = some (.int .i64 t) ∧ w.cell? ⟨w0.heap.size + 1, 3, none⟩ = some (.int .i64 n) ∧ PuInv w0 f k a q t n w :=
  ⟨by rw [heap_cell h.r]; rfl, by rw [heap_cell h.r]; rfl, by rw [heap_cell h.h]; rfl, by rw [heap_cell h.h]; rfl, by rw [heap_cell h.h]; rfl, by rw [heap_cell h.h]; rfl, h⟩
theorem pu_keep {w0 : World} {f k : Int} {a : Bool} {q t n : Int} {w1 w2 : World} (hb : Below w1.heap.size w1 w2) (h : w1.cell? ⟨w0.heap.size, 0, none⟩ = some (.int .i64 f) ∧ w1.cell? ⟨w0.heap.size, 1, none⟩ = some (.int .i64 k) ∧ w1.cell? ⟨w0.heap.size + 1, 0, none⟩ = some (.bool a) ∧ w1.cell? ⟨w0.heap.size + 1, 1, none⟩ = some (.int .i64 q) ∧ w1.cell? ⟨w0.heap.size + 1, 2, none⟩ = some (.int .i64 t) ∧ w1.cell? ⟨w0.heap.size + 1, 3, none⟩ = some (.int .i64 n) ∧ PuInv w0 f k a q t n w1) : w2.cell? ⟨w0.heap.size, 0, none⟩ = some (.int .i64 f) ∧ w2.cell? ⟨w0.heap.size, 1, none⟩ = some (.int .i64 k) ∧ w2.cell? ⟨w0.heap.size + 1, 0, none⟩ = some (.bool a) ∧ w2.cell? ⟨w0.heap.size + 1, 1, none⟩ = some (.int .i64 q) ∧ w2.cell? ⟨w0.heap.size + 1, 2, none⟩ = some (.int .i64 t) ∧ w2.cell? ⟨w0.heap.size + 1, 3, none⟩ = some (.int .i64 n) ∧ PuInv w0 f k a q t n w2 :=
  pu_cells (h.2.2.2.2.2.2.below hb)
theorem pu_size {w0 : World} {f k : Int} {a : Bool} {q t n : Int} {w : World} (h : w.cell? ⟨w0.heap.size, 0, none⟩ = some (.int .i64 f) ∧ w.cell? ⟨w0.heap.size, 1, none⟩ = some (.int .i64 k) ∧ w.cell? ⟨w0.heap.size + 1, 0, none⟩ = some (.bool a) ∧ w.cell? ⟨w0.heap.size + 1, 1, none⟩ = some (.int .i64 q) ∧ w.cell? ⟨w0.heap.size + 1, 2, none⟩ = some (.int .i64 t) ∧ w.cell? ⟨w0.heap.size + 1, 3, none⟩ = some (.int .i64 n) ∧ PuInv w0 f k a q t n w) :
    Calls Tryz.prog 161 #[.agg #[.bool a, .int .i64 q, .int .i64 t, .int .i64 n]] w fun e w' => e = .returned (.int .i64 (sizeI a q t n)) ∧ Below w.heap.size w w' := hSize_any a q t n w h.2.2.2.2.2.2.t
theorem pu_rsize {w0 : World} {f k : Int} {a : Bool} {q t n : Int} {w : World} (_h : w.cell? ⟨w0.heap.size, 0, none⟩ = some (.int .i64 f) ∧ w.cell? ⟨w0.heap.size, 1, none⟩ = some (.int .i64 k) ∧ w.cell? ⟨w0.heap.size + 1, 0, none⟩ = some (.bool a) ∧ w.cell? ⟨w0.heap.size + 1, 1, none⟩ = some (.int .i64 q) ∧ w.cell? ⟨w0.heap.size + 1, 2, none⟩ = some (.int .i64 t) ∧ w.cell? ⟨w0.heap.size + 1, 3, none⟩ = some (.int .i64 n) ∧ PuInv w0 f k a q t n w) :
    Calls Tryz.prog 51 #[.agg #[.bool a, .int .i64 q, .int .i64 t, .int .i64 n]] w fun e w' => e = .returned (.int .i64 (sizeI a q t n)) ∧ Below w.heap.size w w' := rSize_any a q t n w

set_option maxRecDepth 100000 in
set_option maxHeartbeats 2000000 in
theorem PutNil_any (f k : Int) (a : Bool) (q t n : Int) (w : World) (hT : Tab w) :
    Calls Tryz.prog 163 #[.pointer none, .agg #[.int .i64 f, .int .i64 k], .agg #[.bool a, .int .i64 q, .int .i64 t, .int .i64 n]] w fun e w' => e = .returned (.int .i64 1) ∧ Below w.heap.size w w' := by
  obtain ⟨W, hW⟩ : ∃ W, W = (w.alloc (.cells #[.int .i64 f, .int .i64 k] 160)).alloc (.cells #[.bool a, .int .i64 q, .int .i64 t, .int .i64 n] 85) := ⟨_, rfl⟩
  have hbo : Below w.heap.size w W := by rw [hW]; exact ((Below.refl _ _).alloc (Nat.le_refl _) _).alloc (by simp) _
  have hO1 : W.heap[w.heap.size]? = some (.cells #[.int .i64 f, .int .i64 k] 160 (0, 0)) := by
    rw [hW]; exact heap_alloc_lt (heap_alloc_eq _ _) _
  have hO2 : W.heap[w.heap.size + 1]? = some (.cells #[.bool a, .int .i64 q, .int .i64 t, .int .i64 n] 85 (0, 0)) := by
    rw [hW]
    have := heap_alloc_eq (w.alloc (.cells #[.int .i64 f, .int .i64 k] 160)) (.cells #[.bool a, .int .i64 q, .int .i64 t, .int .i64 n] 85)
    rw [show (w.alloc (.cells #[.int .i64 f, .int .i64 k] 160)).heap.size = w.heap.size + 1 by simp] at this
    exact this
  have HW := Lib.hid hW
  clear hW
  have H0 : Hid (PuInv w f k a q t n W) := Lib.hid ⟨hO1, hO2, hT.below hT.lt hbo, hbo⟩
  clear hO1 hO2 hbo hT
  have o0 := heap_cell H0.out.r 0
  have o1 := heap_cell H0.out.r 1
  simp at o0 o1
  have p0 := heap_cell H0.out.h 0
  have p1 := heap_cell H0.out.h 1
  have p2 := heap_cell H0.out.h 2
  have p3 := heap_cell H0.out.h 3
  simp at p0 p1 p2 p3
  have hp := hPut_any a q t n W H0.out.t
  generalize putW a q t n = pw at hp
  generalize putE a q t n = pe at hp
  go_enter Tryz.func163, Tryz.ntmps163
  go_wp2_with fail
  rw [← HW.out]
  go_wp2_with fail
  refine hp.mono ?_
  rintro e w1 ⟨rfl, hb⟩
  have H1 := Lib.hid (H0.out.below hb)
  clear hp hb o0 o1 p0 p1 p2 p3
  go_wp2
  go_quiet (fail)
  go_wp2
  go_ret
  exact ⟨rfl, below_drewN H1.out.b _⟩

set_option maxRecDepth 100000 in
set_option maxHeartbeats 4000000 in
theorem Put_any (b g : Nat) (xs : List Int) (f k : Int) (a : Bool) (q t n : Int) (w : World) (hT : Tab w) (hM : MemAt w b g xs) :
    Calls Tryz.prog 163 #[.pointer (some ⟨b, 0, none⟩), .agg #[.int .i64 f, .int .i64 k], .agg #[.bool a, .int .i64 q, .int .i64 t, .int .i64 n]] w fun e w' => e = .returned (.int .i64 (puE xs f k a q t n)) ∧ w.grownBy w' (some g) ∧ MemAt w' b g (puL xs f k a q t n) := by
  obtain ⟨W, hW⟩ : ∃ W, W = (w.alloc (.cells #[.int .i64 f, .int .i64 k] 160)).alloc (.cells #[.bool a, .int .i64 q, .int .i64 t, .int .i64 n] 85) := ⟨_, rfl⟩
  have hbo : Below w.heap.size w W := by rw [hW]; exact ((Below.refl _ _).alloc (Nat.le_refl _) _).alloc (by simp) _
  have hO1 : W.heap[w.heap.size]? = some (.cells #[.int .i64 f, .int .i64 k] 160 (0, 0)) := by
    rw [hW]; exact heap_alloc_lt (heap_alloc_eq _ _) _
  have hO2 : W.heap[w.heap.size + 1]? = some (.cells #[.bool a, .int .i64 q, .int .i64 t, .int .i64 n] 85 (0, 0)) := by
    rw [hW]
    have := heap_alloc_eq (w.alloc (.cells #[.int .i64 f, .int .i64 k] 160)) (.cells #[.bool a, .int .i64 q, .int .i64 t, .int .i64 n] 85)
    rw [show (w.alloc (.cells #[.int .i64 f, .int .i64 k] 160)).heap.size = w.heap.size + 1 by simp] at this
    exact this
  have HW := Lib.hid hW
  clear hW
  have H0 : Hid (PuInv w f k a q t n W) := Lib.hid ⟨hO1, hO2, hT.below hT.lt hbo, hbo⟩
  have HM := Lib.hid hM
  clear hO1 hO2 hbo hT hM
  have o0 := heap_cell H0.out.r 0
  have o1 := heap_cell H0.out.r 1
  simp at o0 o1
  have p0 := heap_cell H0.out.h 0
  have p1 := heap_cell H0.out.h 1
  have p2 := heap_cell H0.out.h 2
  have p3 := heap_cell H0.out.h 3
  simp at p0 p1 p2 p3
  have hp := hPut_any a q t n W H0.out.t
  cases hm : mayB a q t n
  · have e1 : puE xs f k a q t n = 1 := by simp [puE, puB, hm]
    have e2 : puL xs f k a q t n = xs := by simp [puL, puB, hm]
    rw [e1, e2]
    rw [show putE a q t n = 1 by simp [putE, hm]] at hp
    generalize putW a q t n = pw at hp
    clear hm e1 e2
    go_enter Tryz.func163, Tryz.ntmps163
    go_wp2_with fail
    rw [← HW.out]
    go_wp2_with fail
    refine hp.mono ?_
    rintro e w1 ⟨rfl, hb⟩
    have H1 := Lib.hid (H0.out.below hb)
    clear hp hb o0 o1 p0 p1 p2 p3
    go_wp2
    go_quiet (fail)
    go_wp2
    go_ret
    exact ⟨rfl, grown_of_below (below_drewN H1.out.b _) _, HM.out.later (below_drewN H1.out.b _)⟩
  · rw [show putE a q t n = 0 by simp [putE, hm]] at hp
    obtain ⟨pw, hpw⟩ : ∃ x, putW a q t n = x := ⟨_, rfl⟩
    obtain ⟨sz, hsz⟩ : ∃ x, sizeI a q t n = x := ⟨_, rfl⟩
    rw [hpw] at hp
    have hpu : puB f k a q t n = decide (k = sz) := by simp [puB, hm, hsz]
    have HE := Lib.hid (And.intro hpw (And.intro hsz hpu))
    clear hm hpw hsz hpu
    by_cases hk : k = sz
    · subst hk
      have y1 : (k != k) = false := by simp
      cases hh : hasB xs.length f k
      · have HH := Lib.hid hh
        clear hh
        go_enter Tryz.func163, Tryz.ntmps163
        go_wp2_with fail
        rw [← HW.out]
        go_wp2_with fail
        refine hp.mono ?_
        rintro e w1 ⟨rfl, hb⟩
        have H1 := Lib.hid (H0.out.below hb)
        clear hp hb o0 o1 p0 p1 p2 p3
        go_wp2
        obtain ⟨s0, s1, s2, s3, s4, s5, s6⟩ := pu_cells H1.out
        have hSd : w1.drew.cell? ⟨w.heap.size, 0, none⟩ = some (.int .i64 f) ∧ w1.drew.cell? ⟨w.heap.size, 1, none⟩ = some (.int .i64 k) ∧ w1.drew.cell? ⟨w.heap.size + 1, 0, none⟩ = some (.bool a) ∧ w1.drew.cell? ⟨w.heap.size + 1, 1, none⟩ = some (.int .i64 q) ∧ w1.drew.cell? ⟨w.heap.size + 1, 2, none⟩ = some (.int .i64 t) ∧ w1.drew.cell? ⟨w.heap.size + 1, 3, none⟩ = some (.int .i64 n) ∧ PuInv w f k a q t n w1.drew := pu_keep (w1 := w1) ⟨rfl, rfl, rfl, Nat.le_refl _, fun _ _ => rfl⟩ ⟨s0, s1, s2, s3, s4, s5, s6⟩
        go_region_held3 (fun w' => w'.cell? ⟨w.heap.size, 0, none⟩ = some (.int .i64 f) ∧ w'.cell? ⟨w.heap.size, 1, none⟩ = some (.int .i64 k) ∧ w'.cell? ⟨w.heap.size + 1, 0, none⟩ = some (.bool a) ∧ w'.cell? ⟨w.heap.size + 1, 1, none⟩ = some (.int .i64 q) ∧ w'.cell? ⟨w.heap.size + 1, 2, none⟩ = some (.int .i64 t) ∧ w'.cell? ⟨w.heap.size + 1, 3, none⟩ = some (.int .i64 n) ∧ PuInv w f k a q t n w')
          (first | assumption | exact hSd | exact hSd.1 | exact hSd.2.1 | exact hSd.2.2.1 | exact hSd.2.2.2.1 | exact hSd.2.2.2.2.1 | exact hSd.2.2.2.2.2.1 | exact hSd.2.2.2.2.2.2 | (go_keep; done) | exact pu_keep (by assumption) (by assumption))
          (first
            | (go_at_call 161; refine (pu_size (by assumption)).mono ?_; rw [HE.out.2.1]; rintro e w' ⟨rfl, hb'⟩))
        rename_i hS
        have H2 := Lib.hid hS.2.2.2.2.2.2
        have hM2 := HM.out.later H2.out.b
        have hf := wFill_any b g xs f k 0 _ hM2
        have r0 := hS.1
        have r1 := hS.2.1
        clear hS hSd s0 s1 s2 s3 s4 s5 s6
        rw [show fillE xs.length f k = 8 by unfold fillE; rw [HH.out]; rfl] at hf
        obtain ⟨zs, hzs⟩ : ∃ x, fillL xs f k 0 = x := ⟨_, rfl⟩
        rw [hzs] at hf
        have HZS := Lib.hid hzs
        clear hzs hM2
        go_wp2_with fail
        refine hf.mono ?_
        rintro e w3 ⟨rfl, hg3, hM3⟩
        have hgw := grown_trans (grown_of_below H2.out.b (some g)) hg3
        have hlg := heap_lt HM.out.2.1
        have hR3 := heap_grown hg3 H2.out.r (by omega)
        clear hf hg3 r0 r1
        have e1 : puE xs f k a q t n = 8 := by rw [puE, HE.out.2.2, HH.out]; simp
        have e2 : puL xs f k a q t n = xs := by rw [puL, HE.out.2.2, HH.out]; simp
        have e3 : zs = xs := by rw [← HZS.out]; unfold fillL; rw [HH.out]; rfl
        rw [e3] at hM3
        have E12 := Lib.hid (And.intro e1 e2)
        clear e1 e2 e3 hR3
        go_wp2
        go_ret
        exact ⟨ret_int E12.out.1.symm, hgw, by rw [E12.out.2]; exact hM3⟩
      · have HH := Lib.hid hh
        clear hh
        go_enter Tryz.func163, Tryz.ntmps163
        go_wp2_with fail
        rw [← HW.out]
        go_wp2_with fail
        refine hp.mono ?_
        rintro e w1 ⟨rfl, hb⟩
        have H1 := Lib.hid (H0.out.below hb)
        clear hp hb o0 o1 p0 p1 p2 p3
        go_wp2
        obtain ⟨s0, s1, s2, s3, s4, s5, s6⟩ := pu_cells H1.out
        have hSd : w1.drew.cell? ⟨w.heap.size, 0, none⟩ = some (.int .i64 f) ∧ w1.drew.cell? ⟨w.heap.size, 1, none⟩ = some (.int .i64 k) ∧ w1.drew.cell? ⟨w.heap.size + 1, 0, none⟩ = some (.bool a) ∧ w1.drew.cell? ⟨w.heap.size + 1, 1, none⟩ = some (.int .i64 q) ∧ w1.drew.cell? ⟨w.heap.size + 1, 2, none⟩ = some (.int .i64 t) ∧ w1.drew.cell? ⟨w.heap.size + 1, 3, none⟩ = some (.int .i64 n) ∧ PuInv w f k a q t n w1.drew := pu_keep (w1 := w1) ⟨rfl, rfl, rfl, Nat.le_refl _, fun _ _ => rfl⟩ ⟨s0, s1, s2, s3, s4, s5, s6⟩
        go_region_held3 (fun w' => w'.cell? ⟨w.heap.size, 0, none⟩ = some (.int .i64 f) ∧ w'.cell? ⟨w.heap.size, 1, none⟩ = some (.int .i64 k) ∧ w'.cell? ⟨w.heap.size + 1, 0, none⟩ = some (.bool a) ∧ w'.cell? ⟨w.heap.size + 1, 1, none⟩ = some (.int .i64 q) ∧ w'.cell? ⟨w.heap.size + 1, 2, none⟩ = some (.int .i64 t) ∧ w'.cell? ⟨w.heap.size + 1, 3, none⟩ = some (.int .i64 n) ∧ PuInv w f k a q t n w')
          (first | assumption | exact hSd | exact hSd.1 | exact hSd.2.1 | exact hSd.2.2.1 | exact hSd.2.2.2.1 | exact hSd.2.2.2.2.1 | exact hSd.2.2.2.2.2.1 | exact hSd.2.2.2.2.2.2 | (go_keep; done) | exact pu_keep (by assumption) (by assumption))
          (first
            | (go_at_call 161; refine (pu_size (by assumption)).mono ?_; rw [HE.out.2.1]; rintro e w' ⟨rfl, hb'⟩))
        rename_i hS
        have H2 := Lib.hid hS.2.2.2.2.2.2
        have hM2 := HM.out.later H2.out.b
        have hf := wFill_any b g xs f k 0 _ hM2
        have r0 := hS.1
        have r1 := hS.2.1
        clear hS hSd s0 s1 s2 s3 s4 s5 s6
        rw [show fillE xs.length f k = 0 by unfold fillE; rw [HH.out]; rfl] at hf
        obtain ⟨zs, hzs⟩ : ∃ x, fillL xs f k 0 = x := ⟨_, rfl⟩
        rw [hzs] at hf
        have HZS := Lib.hid hzs
        clear hzs hM2
        go_wp2_with fail
        refine hf.mono ?_
        rintro e w3 ⟨rfl, hg3, hM3⟩
        have hgw := grown_trans (grown_of_below H2.out.b (some g)) hg3
        have hlg := heap_lt HM.out.2.1
        have hR3 := heap_grown hg3 H2.out.r (by omega)
        clear hf hg3 r0 r1
        have zl : zs.length = xs.length := by rw [← HZS.out, fillL_length]
        have e1 : puE xs f k a q t n = wrE zs.length f := by rw [puE, HE.out.2.2, HH.out, zl]; simp
        have e2 : puL xs f k a q t n = wrL zs f pw := by rw [puL, HE.out.2.2, HH.out, HE.out.1, HZS.out]; simp
        have E12 := Lib.hid (And.intro e1 e2)
        have r0 := heap_cell hR3 0
        simp at r0
        clear e1 e2 zl hR3
        go_wp2_with fail
        refine (wWrite_any b g zs f pw _ hM3).mono ?_
        rintro e w4 ⟨rfl, hg4, hM4⟩
        clear r0
        go_wp2
        go_ret
        exact ⟨ret_int E12.out.1.symm, grown_trans hgw hg4, by rw [E12.out.2]; exact hM4⟩
    · have y1 : (k != sz) = true := by simp [hk]
      have e1 : puE xs f k a q t n = 1 := by rw [puE, HE.out.2.2]; simp [hk]
      have e2 : puL xs f k a q t n = xs := by rw [puL, HE.out.2.2]; simp [hk]
      rw [e1, e2]
      clear hk e1 e2
      go_enter Tryz.func163, Tryz.ntmps163
      go_wp2_with fail
      rw [← HW.out]
      go_wp2_with fail
      refine hp.mono ?_
      rintro e w1 ⟨rfl, hb⟩
      have H1 := Lib.hid (H0.out.below hb)
      clear hp hb o0 o1 p0 p1 p2 p3
      go_wp2
      obtain ⟨s0, s1, s2, s3, s4, s5, s6⟩ := pu_cells H1.out
      have hSd : w1.drew.cell? ⟨w.heap.size, 0, none⟩ = some (.int .i64 f) ∧ w1.drew.cell? ⟨w.heap.size, 1, none⟩ = some (.int .i64 k) ∧ w1.drew.cell? ⟨w.heap.size + 1, 0, none⟩ = some (.bool a) ∧ w1.drew.cell? ⟨w.heap.size + 1, 1, none⟩ = some (.int .i64 q) ∧ w1.drew.cell? ⟨w.heap.size + 1, 2, none⟩ = some (.int .i64 t) ∧ w1.drew.cell? ⟨w.heap.size + 1, 3, none⟩ = some (.int .i64 n) ∧ PuInv w f k a q t n w1.drew := pu_keep (w1 := w1) ⟨rfl, rfl, rfl, Nat.le_refl _, fun _ _ => rfl⟩ ⟨s0, s1, s2, s3, s4, s5, s6⟩
      go_region_held3 (fun w' => w'.cell? ⟨w.heap.size, 0, none⟩ = some (.int .i64 f) ∧ w'.cell? ⟨w.heap.size, 1, none⟩ = some (.int .i64 k) ∧ w'.cell? ⟨w.heap.size + 1, 0, none⟩ = some (.bool a) ∧ w'.cell? ⟨w.heap.size + 1, 1, none⟩ = some (.int .i64 q) ∧ w'.cell? ⟨w.heap.size + 1, 2, none⟩ = some (.int .i64 t) ∧ w'.cell? ⟨w.heap.size + 1, 3, none⟩ = some (.int .i64 n) ∧ PuInv w f k a q t n w')
        (first | assumption | exact hSd | exact hSd.1 | exact hSd.2.1 | exact hSd.2.2.1 | exact hSd.2.2.2.1 | exact hSd.2.2.2.2.1 | exact hSd.2.2.2.2.2.1 | exact hSd.2.2.2.2.2.2 | (go_keep; done) | exact pu_keep (by assumption) (by assumption))
        (first
          | (go_at_call 161; refine (pu_size (by assumption)).mono ?_; rw [HE.out.2.1]; rintro e w' ⟨rfl, hb'⟩))
      rename_i hS
      have H2 := Lib.hid hS.2.2.2.2.2.2
      clear hS hSd s0 s1 s2 s3 s4 s5 s6
      go_wp2
      go_ret
      exact ⟨rfl, grown_of_below H2.out.b _, HM.out.later H2.out.b⟩
end Go.Proofs.YtcenagpkfimkbaaGreatDoor
