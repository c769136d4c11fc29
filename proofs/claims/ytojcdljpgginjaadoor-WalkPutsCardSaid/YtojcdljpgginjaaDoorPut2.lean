/-
  The document's Put.
-/
import Derived.Test.YtojcdljpgginjaaDoorPut
namespace Go.Proofs.YtojcdljpgginjaaDoor
open Go Go.RowKit

set_option maxRecDepth 100000 in
set_option maxHeartbeats 4000000 in
theorem rPut12_any (la : Option Addr) (xs : List Int) (lc : Nat) (f k : Int) (a : Bool) (q t n : Int) (w : World) (hT : Tab w) (hX : Reads .u64 w la xs) (hnil : la = none → xs = [] ∧ lc = 0) (hm : xs.length ≤ 300) :
    Calls Tryd.prog 9 #[.slice la xs.length lc, .agg #[.int .i64 f, .int .i64 k], .agg #[.bool a, .int .i64 q, .int .i64 t, .int .i64 n]] w fun e w' => ∃ a' c', e = .returned (.tuple #[.slice a' (puL xs f k a q t n).length c', .int .i64 (puE xs f k a q t n)]) ∧ Below w.heap.size w w' ∧ Reads .u64 w' a' (puL xs f k a q t n) := by
  obtain ⟨W, hW⟩ : ∃ W, W = (w.alloc (.cells #[.int .i64 f, .int .i64 k] 24)).alloc (.cells #[.bool a, .int .i64 q, .int .i64 t, .int .i64 n] 26) := ⟨_, rfl⟩
  have hbo : Below w.heap.size w W := by rw [hW]; exact ((Below.refl _ _).alloc (Nat.le_refl _) _).alloc (by simp) _
  have hO1 : W.heap[w.heap.size]? = some (.cells #[.int .i64 f, .int .i64 k] 24 (0, 0)) := by
    rw [hW]; exact heap_alloc_lt (heap_alloc_eq _ _) _
  have hO2 : W.heap[w.heap.size + 1]? = some (.cells #[.bool a, .int .i64 q, .int .i64 t, .int .i64 n] 26 (0, 0)) := by
    rw [hW]
    have := heap_alloc_eq (w.alloc (.cells #[.int .i64 f, .int .i64 k] 24)) (.cells #[.bool a, .int .i64 q, .int .i64 t, .int .i64 n] 26)
    rw [show (w.alloc (.cells #[.int .i64 f, .int .i64 k] 24)).heap.size = w.heap.size + 1 by simp] at this
    exact this
  have HW := Lib.hid hW
  clear hW
  have H0 : Hid (PuInv w f k a q t n W) := Lib.hid ⟨hO1, hO2, hT.below hT.lt hbo, hbo⟩
  have HX := Lib.hid (And.intro hX hnil)
  clear hO1 hO2 hbo hT hX hnil
  have o0 := heap_cell H0.out.r 0
  have o1 := heap_cell H0.out.r 1
  simp at o0 o1
  have p0 := heap_cell H0.out.h 0
  have p1 := heap_cell H0.out.h 1
  have p2 := heap_cell H0.out.h 2
  have p3 := heap_cell H0.out.h 3
  simp at p0 p1 p2 p3
  have hp := rPut_any a q t n W
  cases hmb : mayB a q t n
  · have e1 : puE xs f k a q t n = 1 := by simp [puE, puB, hmb]
    have e2 : puL xs f k a q t n = xs := by simp [puL, puB, hmb]
    rw [e1, e2]
    rw [show putE a q t n = 1 by simp [putE, hmb]] at hp
    generalize putW a q t n = pw at hp
    clear hmb e1 e2
    go_enter Tryd.func9, Tryd.ntmps9
    go_wp2_with fail
    rw [← HW.out]
    go_wp2_with fail
    refine hp.mono ?_
    rintro e w1 ⟨rfl, hb⟩
    have H1 := Lib.hid (H0.out.below hb)
    clear hp hb o0 o1 p0 p1 p2 p3
    go_wp2
    go_quiet (fail)
    go_wp2
    go_ret2
    exact ⟨_, _, rfl, below_drewN H1.out.b _, HX.out.1.below (below_drewN H1.out.b _)⟩
  · rw [show putE a q t n = 0 by simp [putE, hmb]] at hp
    obtain ⟨pw, hpw⟩ : ∃ x, putW a q t n = x := ⟨_, rfl⟩
    obtain ⟨sz, hsz⟩ : ∃ x, sizeI a q t n = x := ⟨_, rfl⟩
    rw [hpw] at hp
    have hpu : puB f k a q t n = decide (k = sz) := by simp [puB, hmb, hsz]
    have HE := Lib.hid (And.intro hpw (And.intro hsz hpu))
    clear hmb hpw hsz hpu
    by_cases hk : k = sz
    · subst hk
      have y1 : (k != k) = false := by simp
      cases hh : hasB xs.length f k
      · have HH := Lib.hid hh
        clear hh
        go_enter Tryd.func9, Tryd.ntmps9
        go_wp2_with fail
        rw [← HW.out]
        go_wp2_with fail
        refine hp.mono ?_
        rintro e w1 ⟨rfl, hb⟩
        have H1 := Lib.hid (H0.out.below hb)
        clear hp hb o0 o1 p0 p1 p2 p3
        go_wp2
        obtain ⟨s0, s1, s2, s3, s4, s5, s6⟩ := pu_cells H1.out
        have hSd : w1.drew.cell? ⟨w.heap.size, 0, none⟩ = some (.int .i64 f) ∧ w1.drew.cell? ⟨w.heap.size, 1, none⟩ = some (.int .i64 k) ∧ w1.drew.cell? ⟨w.heap.size + 1, 0, none⟩ = some (.bool a) ∧ w1.drew.cell? ⟨w.heap.size + 1, 1, none⟩ = some (.int .i64 q) ∧ w1.drew.cell? ⟨w.heap.size + 1, 2, none⟩ = some (.int .i64 t) ∧ w1.drew.cell? ⟨w.heap.size + 1, 3, none⟩ = some (.int .i64 n) ∧ PuInv w f k a q t n w1.drew := pu_keep (w1 := w1) ⟨rfl, rfl, rfl, Nat.le_refl _, fun _ _ => rfl⟩ ⟨s0, s1, s2, s3, s4, s5, s6⟩
        go_region_held3 (fun w' => w'.cell? ⟨w.heap.size, 0, none⟩ = some (.int .i64 f) ∧ w'.cell? ⟨w.heap.size, 1, none⟩ = some (.int .i64 k) ∧ w'.cell? ⟨w.heap.size + 1, 0, none⟩ = some (.bool a) ∧ w'.cell? ⟨w.heap.size + 1, 1, none⟩ = some (.int .i64 q) ∧ w'.cell? ⟨w.heap.size + 1, 2, none⟩ = some (.int .i64 t) ∧ w'.cell? ⟨w.heap.size + 1, 3, none⟩ = some (.int .i64 n) ∧ PuInv w f k a q t n w')
          (first | assumption | exact hSd | exact hSd.1 | exact hSd.2.1 | exact hSd.2.2.1 | exact hSd.2.2.2.1 | exact hSd.2.2.2.2.1 | exact hSd.2.2.2.2.2.1 | exact hSd.2.2.2.2.2.2 | (go_keep; done) | exact pu_keep (by assumption) (by assumption))
          (first
            | (go_at_call 13; refine (pu_rsize (by assumption)).mono ?_; rw [HE.out.2.1]; rintro e w' ⟨rfl, hb'⟩))
        rename_i hS
        have H2 := Lib.hid hS.2.2.2.2.2.2
        have r0 := hS.1
        have r1 := hS.2.1
        clear hS hSd s0 s1 s2 s3 s4 s5 s6
        have hf := rFillR_any la lc xs f k 0 _ (HX.out.1.below H2.out.b) (by omega) HX.out.2
        rw [show fillE xs.length f k = 8 by unfold fillE; rw [HH.out]; rfl] at hf
        obtain ⟨zs, hzs⟩ : ∃ x, fillL xs f k 0 = x := ⟨_, rfl⟩
        rw [hzs] at hf
        have HZS := Lib.hid hzs
        clear hzs
        go_wp2_with fail
        refine hf.mono ?_
        rintro e w3 ⟨a3, c3, rfl, hb3, hr3, _⟩
        have H3 := Lib.hid (And.intro (H2.out.below hb3) hr3)
        clear hf hb3 hr3 r0 r1
        have e1 : puE xs f k a q t n = 8 := by rw [puE, HE.out.2.2, HH.out]; simp
        have e2 : puL xs f k a q t n = xs := by rw [puL, HE.out.2.2, HH.out]; simp
        have e3 : zs = xs := by rw [← HZS.out]; unfold fillL; rw [HH.out]; rfl
        have E12 := Lib.hid (And.intro e1 (And.intro e2 e3))
        clear e1 e2 e3
        go_wp2
        go_ret2
        rw [E12.out.1, E12.out.2.1, ← E12.out.2.2]
        exact ⟨_, _, rfl, H3.out.1.b, H3.out.2⟩
      · have HH := Lib.hid hh
        clear hh
        go_enter Tryd.func9, Tryd.ntmps9
        go_wp2_with fail
        rw [← HW.out]
        go_wp2_with fail
        refine hp.mono ?_
        rintro e w1 ⟨rfl, hb⟩
        have H1 := Lib.hid (H0.out.below hb)
        clear hp hb o0 o1 p0 p1 p2 p3
        go_wp2
        obtain ⟨s0, s1, s2, s3, s4, s5, s6⟩ := pu_cells H1.out
        have hSd : w1.drew.cell? ⟨w.heap.size, 0, none⟩ = some (.int .i64 f) ∧ w1.drew.cell? ⟨w.heap.size, 1, none⟩ = some (.int .i64 k) ∧ w1.drew.cell? ⟨w.heap.size + 1, 0, none⟩ = some (.bool a) ∧ w1.drew.cell? ⟨w.heap.size + 1, 1, none⟩ = some (.int .i64 q) ∧ w1.drew.cell? ⟨w.heap.size + 1, 2, none⟩ = some (.int .i64 t) ∧ w1.drew.cell? ⟨w.heap.size + 1, 3, none⟩ = some (.int .i64 n) ∧ PuInv w f k a q t n w1.drew := pu_keep (w1 := w1) ⟨rfl, rfl, rfl, Nat.le_refl _, fun _ _ => rfl⟩ ⟨s0, s1, s2, s3, s4, s5, s6⟩
        go_region_held3 (fun w' => w'.cell? ⟨w.heap.size, 0, none⟩ = some (.int .i64 f) ∧ w'.cell? ⟨w.heap.size, 1, none⟩ = some (.int .i64 k) ∧ w'.cell? ⟨w.heap.size + 1, 0, none⟩ = some (.bool a) ∧ w'.cell? ⟨w.heap.size + 1, 1, none⟩ = some (.int .i64 q) ∧ w'.cell? ⟨w.heap.size + 1, 2, none⟩ = some (.int .i64 t) ∧ w'.cell? ⟨w.heap.size + 1, 3, none⟩ = some (.int .i64 n) ∧ PuInv w f k a q t n w')
          (first | assumption | exact hSd | exact hSd.1 | exact hSd.2.1 | exact hSd.2.2.1 | exact hSd.2.2.2.1 | exact hSd.2.2.2.2.1 | exact hSd.2.2.2.2.2.1 | exact hSd.2.2.2.2.2.2 | (go_keep; done) | exact pu_keep (by assumption) (by assumption))
          (first
            | (go_at_call 13; refine (pu_rsize (by assumption)).mono ?_; rw [HE.out.2.1]; rintro e w' ⟨rfl, hb'⟩))
        rename_i hS
        have H2 := Lib.hid hS.2.2.2.2.2.2
        have r0 := hS.1
        have r1 := hS.2.1
        clear hS hSd s0 s1 s2 s3 s4 s5 s6
        have hf := rFillR_any la lc xs f k 0 _ (HX.out.1.below H2.out.b) (by omega) HX.out.2
        rw [show fillE xs.length f k = 0 by unfold fillE; rw [HH.out]; rfl] at hf
        obtain ⟨zs, hzs⟩ : ∃ x, fillL xs f k 0 = x := ⟨_, rfl⟩
        rw [hzs] at hf
        have HZS := Lib.hid hzs
        clear hzs
        go_wp2_with fail
        refine hf.mono ?_
        rintro e w3 ⟨a3, c3, rfl, hb3, hr3, _⟩
        have H3 := Lib.hid (And.intro (H2.out.below hb3) hr3)
        clear hf hb3 hr3 r0 r1
        have zl : zs.length = xs.length := by rw [← HZS.out, fillL_length]
        have e1 : puE xs f k a q t n = wrE zs.length f := by rw [puE, HE.out.2.2, HH.out, zl]; simp
        have e2 : puL xs f k a q t n = wrL zs f pw := by rw [puL, HE.out.2.2, HH.out, HE.out.1, HZS.out]; simp
        have E12 := Lib.hid (And.intro e1 (And.intro e2 zl))
        have r0 := heap_cell H3.out.1.r 0
        simp at r0
        clear e1 e2 zl
        go_wp2_with fail
        refine (rWriteR_any a3 c3 zs f pw _ H3.out.2 (by rw [E12.out.2.2]; exact hm)).mono ?_
        rintro e w4 ⟨a4, c4, rfl, hb4, hr4, _⟩
        have H4 := Lib.hid (And.intro (H3.out.1.below hb4) hr4)
        clear r0 hb4 hr4
        go_wp2
        go_ret2
        rw [E12.out.1, E12.out.2.1]
        exact ⟨_, _, rfl, H4.out.1.b, H4.out.2⟩
    · have y1 : (k != sz) = true := by simp [hk]
      have e1 : puE xs f k a q t n = 1 := by rw [puE, HE.out.2.2]; simp [hk]
      have e2 : puL xs f k a q t n = xs := by rw [puL, HE.out.2.2]; simp [hk]
      rw [e1, e2]
      clear hk e1 e2
      go_enter Tryd.func9, Tryd.ntmps9
      go_wp2_with fail
      rw [← HW.out]
      go_wp2_with fail
      refine hp.mono ?_
      rintro e w1 ⟨rfl, hb⟩
      have H1 := Lib.hid (H0.out.below hb)
      clear hp hb o0 o1 p0 p1 p2 p3
      go_wp2
      obtain ⟨s0, s1, s2, s3, s4, s5, s6⟩ := pu_cells H1.out
      have hSd : w1.drew.cell? ⟨w.heap.size, 0, none⟩ = some (.int .i64 f) ∧ w1.drew.cell? ⟨w.heap.size, 1, none⟩ = some (.int .i64 k) ∧ w1.drew.cell? ⟨w.heap.size + 1, 0, none⟩ = some (.bool a) ∧ w1.drew.cell? ⟨w.heap.size + 1, 1, none⟩ = some (.int .i64 q) ∧ w1.drew.cell? ⟨w.heap.size + 1, 2, none⟩ = some (.int .i64 t) ∧ w1.drew.cell? ⟨w.heap.size + 1, 3, none⟩ = some (.int .i64 n) ∧ PuInv w f k a q t n w1.drew := pu_keep (w1 := w1) ⟨rfl, rfl, rfl, Nat.le_refl _, fun _ _ => rfl⟩ ⟨s0, s1, s2, s3, s4, s5, s6⟩
      go_region_held3 (fun w' => w'.cell? ⟨w.heap.size, 0, none⟩ = some (.int .i64 f) ∧ w'.cell? ⟨w.heap.size, 1, none⟩ = some (.int .i64 k) ∧ w'.cell? ⟨w.heap.size + 1, 0, none⟩ = some (.bool a) ∧ w'.cell? ⟨w.heap.size + 1, 1, none⟩ = some (.int .i64 q) ∧ w'.cell? ⟨w.heap.size + 1, 2, none⟩ = some (.int .i64 t) ∧ w'.cell? ⟨w.heap.size + 1, 3, none⟩ = some (.int .i64 n) ∧ PuInv w f k a q t n w')
        (first | assumption | exact hSd | exact hSd.1 | exact hSd.2.1 | exact hSd.2.2.1 | exact hSd.2.2.2.1 | exact hSd.2.2.2.2.1 | exact hSd.2.2.2.2.2.1 | exact hSd.2.2.2.2.2.2 | (go_keep; done) | exact pu_keep (by assumption) (by assumption))
        (first
          | (go_at_call 13; refine (pu_rsize (by assumption)).mono ?_; rw [HE.out.2.1]; rintro e w' ⟨rfl, hb'⟩))
      rename_i hS
      have H2 := Lib.hid hS.2.2.2.2.2.2
      clear hS hSd s0 s1 s2 s3 s4 s5 s6
      go_wp2
      go_ret2
      exact ⟨_, _, rfl, H2.out.b, HX.out.1.below H2.out.b⟩
end Go.Proofs.YtojcdljpgginjaaDoor
