/-
  The walks of the three laws of layer 8: each returns true.
-/
import Derived.Test.YtopjgcljdianoaaDoorHeader2
import Derived.Deep.RegionHeld3
namespace Go.Proofs.YtopjgcljdianoaaDoor
open Go Go.RowKit

theorem hfixed_any (w : World) (h0 : Tab w) :
    Calls Tryd.prog 7 #[] w fun e w' => e = .returned (.bool true) ∧ Below w.heap.size w w' := by
  have hT := h0.alloc (.cells #[.bool false, .int .i64 0, .int .i64 1, .int .i64 2] 23)
  have e1 : putW false 0 1 2 = 131329 := by simp [putW, mayB, wordI]
  have e2 : putE false 0 1 2 = 0 := by simp [putE, mayB]
  have e3 : sizeI false 0 1 2 = 3 := by simp [sizeI, mayB]; rfl
  go_enter Tryd.func7, Tryd.ntmps7
  go_wp2_with (first | (go_at_call 6; refine (hPut_any _ _ _ _ _ ‹_›).mono ?_; rintro e w' ⟨rfl, hb'⟩; obtain ⟨hc', hf', hs'⟩ := bcell hb'; have hT' := hT.below (Nat.lt_of_lt_of_le h0.lt (by simp)) hb'; simp only [World.size_alloc] at hs'; have hz1 := Nat.lt_of_succ_le hs') | (go_at_call 8; refine (hSize_any _ _ _ _ _ ‹_›).mono ?_; rintro e w2 ⟨rfl, hb2⟩))
  go_ret
  exact ⟨rfl, (((Below.refl _ _).alloc (Nat.le_refl _) _).trans (hb'.mono (by simp))).trans (hb2.mono (by omega))⟩

/-- What a region keeps of a head's box, of the old blocks and of the table. -/
theorem hold4 {W0 w1 w2 : World} {n : Nat} {a b c d : Value} (h : w1.cell? ⟨n, 0, none⟩ = some a ∧ w1.cell? ⟨n, 1, none⟩ = some b ∧ w1.cell? ⟨n, 2, none⟩ = some c ∧ w1.cell? ⟨n, 3, none⟩ = some d ∧ Below W0.heap.size W0 w1 ∧ Tab w1) (hb : Below w1.heap.size w1 w2) :
    w2.cell? ⟨n, 0, none⟩ = some a ∧ w2.cell? ⟨n, 1, none⟩ = some b ∧ w2.cell? ⟨n, 2, none⟩ = some c ∧ w2.cell? ⟨n, 3, none⟩ = some d ∧ Below W0.heap.size W0 w2 ∧ Tab w2 := by
  obtain ⟨h0, h1, h2, h3, h4, h5⟩ := h
  exact ⟨(hb.cell (cell_lt h0)).trans h0, (hb.cell (cell_lt h1)).trans h1, (hb.cell (cell_lt h2)).trans h2, (hb.cell (cell_lt h3)).trans h3, h4.trans (hb.mono h4.size), h5.below h5.lt hb⟩

theorem get_put {arr : Bool} {k t n : Int} (h : mayB arr k t n = true) :
    getV (putW arr k t n) = .agg #[.bool arr, .int .i64 k, .int .i64 t, .int .i64 n] ∧ getE (putW arr k t n) = 0 := by
  have hb := mayB_bd h
  have e : putW arr k t n = wordI arr k t n := by simp [putW, h]
  rw [e]
  have e1 : gA (wordI arr k t n) = arr := by
    unfold gA wordI
    cases arr
    · simp; omega
    · simp; omega
  have e2 : gK (wordI arr k t n) = k := by unfold gK wordI; cases arr <;> simp <;> omega
  have e3 : gT (wordI arr k t n) = t := by unfold gT wordI; cases arr <;> simp <;> omega
  have e4 : gN (wordI arr k t n) = n := by unfold gN wordI; cases arr <;> simp <;> omega
  have e5 : getB (wordI arr k t n) = true := by unfold getB; rw [e1, e2, e3, e4, h]; simp
  exact ⟨by simp only [getV, e5, if_true]; rw [e1, e2, e3, e4], by simp [getE, e5]⟩

theorem HeaderPuts_any (arr : Bool) (k t n : Int) (w : World) (h0 : Tab w) :
    Calls Tryd.prog 4 #[.agg #[.bool arr, .int .i64 k, .int .i64 t, .int .i64 n]] w fun e w' => e = .returned (.bool true) ∧ Below w.heap.size w w' := by
  have hT := h0.alloc (.cells #[.bool arr, .int .i64 k, .int .i64 t, .int .i64 n] 23)
  obtain ⟨p, hp⟩ : ∃ p, putW arr k t n = p := ⟨_, rfl⟩
  cases hb : mayB arr k t n
  · have e2 : putE arr k t n = 1 := by simp [putE, hb]
    go_enter Tryd.func4, Tryd.ntmps4
    go_wp2_with (first | (go_at_call 6; refine (hPut_any _ _ _ _ _ ‹_›).mono ?_; rintro e w1 ⟨rfl, hb1⟩; obtain ⟨hc1, hf1, hs1⟩ := bcell hb1; have hT1 := hT.below (Nat.lt_of_lt_of_le h0.lt (by simp)) hb1; simp only [World.size_alloc] at hs1; have hz1 := Nat.lt_of_succ_le hs1) | (go_at_call 9; refine (rPut_any _ _ _ _ _).mono ?_; rintro e w2 ⟨rfl, hb2⟩; obtain ⟨hc2, hf2, hs2⟩ := bcell hb2; have hT2 := hT1.below hT1.lt hb2))
    have hS : w2.cell? ⟨w.heap.size, 0, none⟩ = some (.bool arr) ∧ w2.cell? ⟨w.heap.size, 1, none⟩ = some (.int .i64 k) ∧ w2.cell? ⟨w.heap.size, 2, none⟩ = some (.int .i64 t) ∧ w2.cell? ⟨w.heap.size, 3, none⟩ = some (.int .i64 n) ∧ Below w.heap.size w w2 ∧ Tab w2 :=
      hold4 (hold4 (W0 := w) (w1 := w.alloc (.cells #[.bool arr, .int .i64 k, .int .i64 t, .int .i64 n] 23)) ⟨by simp, by simp, by simp, by simp, (Below.refl _ _).alloc (Nat.le_refl _) _, hT⟩ hb1) hb2
    clear hb1 hc1 hf1 hT1 hs1 hz1 hb2 hc2 hf2 hs2 hT2
    obtain ⟨c0, c1, c2, c3, hB, hT2⟩ := hS
    have hTd : Tab w2.drew := hT2
    have hBd : Below w.heap.size w w2.drew := hB.drew
    go_region_held3 (fun w' => w'.cell? ⟨w.heap.size, 0, none⟩ = some (.bool arr) ∧ w'.cell? ⟨w.heap.size, 1, none⟩ = some (.int .i64 k) ∧ w'.cell? ⟨w.heap.size, 2, none⟩ = some (.int .i64 t) ∧ w'.cell? ⟨w.heap.size, 3, none⟩ = some (.int .i64 n) ∧ Below w.heap.size w w' ∧ Tab w') (first | assumption | (go_keep; done) | exact hold4 (by assumption) (by assumption))
      (first | (go_at_call 8; refine (hSize_any _ _ _ _ _ ?_).mono ?_; (simp [*]); rintro e w' ⟨rfl, hb'⟩) | (go_at_call 10; refine (rSize_any _ _ _ _ _).mono ?_; rintro e w' ⟨rfl, hb'⟩))
    rename_i hS
    obtain ⟨_, _, _, _, hB2, hT3⟩ := hS
    go_wp2_with (go_at_call 7; refine (hfixed_any _ hT3).mono ?_; rintro e w3 ⟨rfl, hb3⟩)
    go_ret
    exact ⟨rfl, hB2.trans (hb3.mono hB2.size)⟩
  · have e2 : putE arr k t n = 0 := by simp [putE, hb]
    have e3 := get_put hb
    obtain ⟨hg1, hg2⟩ := get_put hb
    rw [hp] at hg1 hg2
    have hbd := mayB_bd hb
    have hpw : p = wordI arr k t n := by rw [← hp]; simp [putW, hb]
    have hp0 : 1 ≤ p := by rw [hpw]; unfold wordI; cases arr <;> simp <;> omega
    have hp1 : p < 18446744073709551616 := by rw [hpw]; unfold wordI; cases arr <;> simp <;> omega
    have heq : headEq arr k t n arr k t n = true := by simp [headEq]
    have hrun := run_eqHead arr k t n arr k t n
    rw [heq] at hrun
    clear hpw hbd e3 heq
    go_enter Tryd.func4, Tryd.ntmps4
    go_wp2_with (first | (go_at_call 6; refine (hPut_any _ _ _ _ _ ‹_›).mono ?_; rintro e w1 ⟨rfl, hb1⟩; obtain ⟨hc1, hf1, hs1⟩ := bcell hb1; have hT1 := hT.below (Nat.lt_of_lt_of_le h0.lt (by simp)) hb1; simp only [World.size_alloc] at hs1; have hz1 := Nat.lt_of_succ_le hs1) | (go_at_call 9; refine (rPut_any _ _ _ _ _).mono ?_; rintro e w2 ⟨rfl, hb2⟩; obtain ⟨hc2, hf2, hs2⟩ := bcell hb2; have hT2 := hT1.below hT1.lt hb2))
    have hS : w2.cell? ⟨w.heap.size, 0, none⟩ = some (.bool arr) ∧ w2.cell? ⟨w.heap.size, 1, none⟩ = some (.int .i64 k) ∧ w2.cell? ⟨w.heap.size, 2, none⟩ = some (.int .i64 t) ∧ w2.cell? ⟨w.heap.size, 3, none⟩ = some (.int .i64 n) ∧ Below w.heap.size w w2 ∧ Tab w2 :=
      hold4 (hold4 (W0 := w) (w1 := w.alloc (.cells #[.bool arr, .int .i64 k, .int .i64 t, .int .i64 n] 23)) ⟨by simp, by simp, by simp, by simp, (Below.refl _ _).alloc (Nat.le_refl _) _, hT⟩ hb1) hb2
    clear hb1 hc1 hf1 hT1 hs1 hz1 hb2 hc2 hf2 hs2 hT2
    obtain ⟨c0, c1, c2, c3, hB, hT2⟩ := hS
    have hTd : Tab w2.drew := hT2
    have hBd : Below w.heap.size w w2.drew := hB.drew
    go_region_held3 (fun w' => w'.cell? ⟨w.heap.size, 0, none⟩ = some (.bool arr) ∧ w'.cell? ⟨w.heap.size, 1, none⟩ = some (.int .i64 k) ∧ w'.cell? ⟨w.heap.size, 2, none⟩ = some (.int .i64 t) ∧ w'.cell? ⟨w.heap.size, 3, none⟩ = some (.int .i64 n) ∧ Below w.heap.size w w' ∧ Tab w') (first | assumption | (go_keep; done) | exact hold4 (by assumption) (by assumption))
      (first | (go_at_call 8; refine (hSize_any _ _ _ _ _ ?_).mono ?_; (simp [*]); rintro e w' ⟨rfl, hb'⟩) | (go_at_call 10; refine (rSize_any _ _ _ _ _).mono ?_; rintro e w' ⟨rfl, hb'⟩))
    rename_i hS
    obtain ⟨c0', c1', c2', c3', hB2, hT3⟩ := hS
    clear c0 c1 c2 c3 hB hT2 hTd hBd hT
    have hz : w.heap.size < w'.heap.size := cell_lt c0'
    go_wp2_with (first | (go_at_call 11; refine (hGet_any _ _ ‹_› (by omega) (by omega)).mono ?_; rw [hg1, hg2]; rintro e w3 ⟨rfl, hb3⟩; obtain ⟨hc3, hf3, hs3⟩ := bcell hb3; have hz3 : w.heap.size < w3.heap.size := Nat.lt_of_lt_of_le hz hs3) | (go_at_call 7; refine (hfixed_any _ ((hT3.below hT3.lt hb3).alloc _)).mono ?_; rintro e w4 ⟨rfl, hb4⟩; obtain ⟨hc4, hf4, hs4⟩ := bcell hb4; simp only [World.size_alloc] at hs4; have hz4 := Nat.lt_of_succ_le hs4; have hz5 := Nat.lt_trans hz3 hz4))
    go_ret
    exact ⟨ret_bool (by simp; omega), ((hB2.trans (hb3.mono hB2.size)).alloc (by omega) _).trans (hb4.mono (by simp; omega))⟩

theorem get_parts (x : Int) : ∃ a k t n, getV x = .agg #[.bool a, .int .i64 k, .int .i64 t, .int .i64 n] ∧ ((getE x = 0 ∧ putW a k t n = x ∧ putE a k t n = 0) ∨ getE x = 11) := by
  cases h : getB x
  · exact ⟨false, 0, 0, 0, by simp [getV, h], .inr (by simp [getE, h])⟩
  · refine ⟨gA x, gK x, gT x, gN x, by simp [getV, h], .inl ⟨by simp [getE, h], ?_⟩⟩
    simp only [getB, Bool.and_eq_true, beq_iff_eq] at h
    simp [putW, putE, h.1, h.2]

theorem HeaderGets_any (x : Int) (w : World) (h0 : Tab w) (hx0 : 0 ≤ x) (hx1 : x < 18446744073709551616) :
    Calls Tryd.prog 5 #[.int .u64 x] w fun e w' => e = .returned (.bool true) ∧ Below w.heap.size w w' := by
  obtain ⟨a, k, t, n, hV, hE⟩ := get_parts x
  have heq : headEq a k t n a k t n = true := by simp [headEq]
  have hrun := run_neHead a k t n a k t n
  rw [heq] at hrun
  simp only [Bool.not_true] at hrun
  clear heq
  rcases hE with ⟨hE, hW, hP⟩ | hE
  · go_enter Tryd.func5, Tryd.ntmps5
    go_wp2_with (first
      | (go_at_call 11; refine (hGet_any _ _ h0 hx0 hx1).mono ?_; rw [hV, hE]; rintro e w1 ⟨rfl, hb1⟩; obtain ⟨hc1, hf1, hs1⟩ := bcell hb1; have hT1 := (h0.below h0.lt hb1).alloc (Obj.cells #[.bool a, .int .i64 k, .int .i64 t, .int .i64 n] 23))
      | (go_at_call 12; refine (rGet_any _ _ hx0 hx1).mono ?_; rw [hV, hE]; rintro e w2 ⟨rfl, hb2⟩; obtain ⟨hc2, hf2, hs2⟩ := bcell hb2; simp only [World.size_alloc] at hs2; have hz2 := Nat.lt_of_succ_le hs2; have hT2 := (hT1.below hT1.lt hb2).alloc (Obj.cells #[.bool a, .int .i64 k, .int .i64 t, .int .i64 n] 23))
      | (go_at_call 6; refine (hPut_any _ _ _ _ _ hT2).mono ?_; rintro e w3 ⟨rfl, hb3⟩; obtain ⟨hc3, hf3, hs3⟩ := bcell hb3; simp only [World.size_alloc] at hs3; have hz3 := Nat.lt_of_succ_le hs3; have hT3 := hT2.below hT2.lt hb3)
      | (go_at_call 7; refine (hfixed_any _ hT3).mono ?_; rintro e w4 ⟨rfl, hb4⟩))
    go_ret
    exact ⟨rfl, (((((Below.refl _ _).trans hb1).alloc hs1 _).trans (hb2.mono (by simp; omega))).alloc (by omega) _).trans ((hb3.mono (by simp; omega)).trans (hb4.mono (by omega)))⟩
  · go_enter Tryd.func5, Tryd.ntmps5
    go_wp2_with (first
      | (go_at_call 11; refine (hGet_any _ _ h0 hx0 hx1).mono ?_; rw [hV, hE]; rintro e w1 ⟨rfl, hb1⟩; obtain ⟨hc1, hf1, hs1⟩ := bcell hb1; have hT1 := (h0.below h0.lt hb1).alloc (Obj.cells #[.bool a, .int .i64 k, .int .i64 t, .int .i64 n] 23))
      | (go_at_call 12; refine (rGet_any _ _ hx0 hx1).mono ?_; rw [hV, hE]; rintro e w2 ⟨rfl, hb2⟩; obtain ⟨hc2, hf2, hs2⟩ := bcell hb2; simp only [World.size_alloc] at hs2; have hz2 := Nat.lt_of_succ_le hs2; have hT2 := (hT1.below hT1.lt hb2).alloc (Obj.cells #[.bool a, .int .i64 k, .int .i64 t, .int .i64 n] 23))
      | (go_at_call 6; refine (hPut_any _ _ _ _ _ hT2).mono ?_; rintro e w3 ⟨rfl, hb3⟩; obtain ⟨hc3, hf3, hs3⟩ := bcell hb3; simp only [World.size_alloc] at hs3; have hz3 := Nat.lt_of_succ_le hs3; have hT3 := hT2.below hT2.lt hb3)
      | (go_at_call 7; refine (hfixed_any _ hT3).mono ?_; rintro e w4 ⟨rfl, hb4⟩))
    go_ret
    exact ⟨rfl, (((((Below.refl _ _).trans hb1).alloc hs1 _).trans (hb2.mono (by simp; omega))).alloc (by omega) _).trans ((hb3.mono (by simp; omega)).trans (hb4.mono (by omega)))⟩
/-- The same of two boxes. -/
theorem hold8 {W0 w1 w2 : World} {n m : Nat} {a b c d a' b' c' d' : Value} (h : w1.cell? ⟨n, 0, none⟩ = some a ∧ w1.cell? ⟨n, 1, none⟩ = some b ∧ w1.cell? ⟨n, 2, none⟩ = some c ∧ w1.cell? ⟨n, 3, none⟩ = some d ∧ w1.cell? ⟨m, 0, none⟩ = some a' ∧ w1.cell? ⟨m, 1, none⟩ = some b' ∧ w1.cell? ⟨m, 2, none⟩ = some c' ∧ w1.cell? ⟨m, 3, none⟩ = some d' ∧ Below W0.heap.size W0 w1 ∧ Tab w1) (hb : Below w1.heap.size w1 w2) :
    w2.cell? ⟨n, 0, none⟩ = some a ∧ w2.cell? ⟨n, 1, none⟩ = some b ∧ w2.cell? ⟨n, 2, none⟩ = some c ∧ w2.cell? ⟨n, 3, none⟩ = some d ∧ w2.cell? ⟨m, 0, none⟩ = some a' ∧ w2.cell? ⟨m, 1, none⟩ = some b' ∧ w2.cell? ⟨m, 2, none⟩ = some c' ∧ w2.cell? ⟨m, 3, none⟩ = some d' ∧ Below W0.heap.size W0 w2 ∧ Tab w2 := by
  obtain ⟨h0, h1, h2, h3, g0, g1, g2, g3, h4, h5⟩ := h
  exact ⟨(hb.cell (cell_lt h0)).trans h0, (hb.cell (cell_lt h1)).trans h1, (hb.cell (cell_lt h2)).trans h2, (hb.cell (cell_lt h3)).trans h3, (hb.cell (cell_lt g0)).trans g0, (hb.cell (cell_lt g1)).trans g1, (hb.cell (cell_lt g2)).trans g2, (hb.cell (cell_lt g3)).trans g3, h4.trans (hb.mono h4.size), h5.below h5.lt hb⟩

theorem putW_inj {a : Bool} {k t n : Int} {a' : Bool} {k' t' n' : Int} (h : mayB a k t n = true) (h' : mayB a' k' t' n' = true) : (putW a k t n == putW a' k' t' n') = headEq a k t n a' k' t' n' := by
  unfold headEq
  by_cases e : a = a' ∧ k = k' ∧ t = t' ∧ n = n'
  · obtain ⟨rfl, rfl, rfl, rfl⟩ := e; simp
  · have : ¬ putW a k t n = putW a' k' t' n' := by
      intro hp
      have h1 := (get_put h).1
      rw [hp, (get_put h').1] at h1
      simp at h1
      exact e ⟨h1.1.symm, h1.2.1.symm, h1.2.2.1.symm, h1.2.2.2.symm⟩
    simp [e, this]

set_option maxHeartbeats 4000000 in
theorem HeaderOne_any (a : Bool) (k t n : Int) (a' : Bool) (k' t' n' : Int) (w : World) (h0 : Tab w) :
    Calls Tryd.prog 3 #[.agg #[.bool a, .int .i64 k, .int .i64 t, .int .i64 n], .agg #[.bool a', .int .i64 k', .int .i64 t', .int .i64 n']] w fun e w' => e = .returned (.bool true) ∧ Below w.heap.size w w' := by
  have hrun := run_eqHead a k t n a' k' t' n'
  have hT := (h0.alloc (Obj.cells #[.bool a, .int .i64 k, .int .i64 t, .int .i64 n] 23)).alloc (Obj.cells #[.bool a', .int .i64 k', .int .i64 t', .int .i64 n'] 23)
  have hS0 : ((w.alloc (Obj.cells #[.bool a, .int .i64 k, .int .i64 t, .int .i64 n] 23)).alloc (Obj.cells #[.bool a', .int .i64 k', .int .i64 t', .int .i64 n'] 23)).cell? ⟨w.heap.size, 0, none⟩ = some (.bool a) ∧ ((w.alloc (Obj.cells #[.bool a, .int .i64 k, .int .i64 t, .int .i64 n] 23)).alloc (Obj.cells #[.bool a', .int .i64 k', .int .i64 t', .int .i64 n'] 23)).cell? ⟨w.heap.size, 1, none⟩ = some (.int .i64 k) ∧ ((w.alloc (Obj.cells #[.bool a, .int .i64 k, .int .i64 t, .int .i64 n] 23)).alloc (Obj.cells #[.bool a', .int .i64 k', .int .i64 t', .int .i64 n'] 23)).cell? ⟨w.heap.size, 2, none⟩ = some (.int .i64 t) ∧ ((w.alloc (Obj.cells #[.bool a, .int .i64 k, .int .i64 t, .int .i64 n] 23)).alloc (Obj.cells #[.bool a', .int .i64 k', .int .i64 t', .int .i64 n'] 23)).cell? ⟨w.heap.size, 3, none⟩ = some (.int .i64 n) ∧ ((w.alloc (Obj.cells #[.bool a, .int .i64 k, .int .i64 t, .int .i64 n] 23)).alloc (Obj.cells #[.bool a', .int .i64 k', .int .i64 t', .int .i64 n'] 23)).cell? ⟨w.heap.size + 1, 0, none⟩ = some (.bool a') ∧ ((w.alloc (Obj.cells #[.bool a, .int .i64 k, .int .i64 t, .int .i64 n] 23)).alloc (Obj.cells #[.bool a', .int .i64 k', .int .i64 t', .int .i64 n'] 23)).cell? ⟨w.heap.size + 1, 1, none⟩ = some (.int .i64 k') ∧ ((w.alloc (Obj.cells #[.bool a, .int .i64 k, .int .i64 t, .int .i64 n] 23)).alloc (Obj.cells #[.bool a', .int .i64 k', .int .i64 t', .int .i64 n'] 23)).cell? ⟨w.heap.size + 1, 2, none⟩ = some (.int .i64 t') ∧ ((w.alloc (Obj.cells #[.bool a, .int .i64 k, .int .i64 t, .int .i64 n] 23)).alloc (Obj.cells #[.bool a', .int .i64 k', .int .i64 t', .int .i64 n'] 23)).cell? ⟨w.heap.size + 1, 3, none⟩ = some (.int .i64 n') ∧ Below w.heap.size w ((w.alloc (Obj.cells #[.bool a, .int .i64 k, .int .i64 t, .int .i64 n] 23)).alloc (Obj.cells #[.bool a', .int .i64 k', .int .i64 t', .int .i64 n'] 23)) ∧ Tab ((w.alloc (Obj.cells #[.bool a, .int .i64 k, .int .i64 t, .int .i64 n] 23)).alloc (Obj.cells #[.bool a', .int .i64 k', .int .i64 t', .int .i64 n'] 23)) :=
    ⟨by simp, by simp, by simp, by simp, by simp, by simp, by simp, by simp, ((Below.refl _ _).alloc (Nat.le_refl _) _).alloc (by simp) _, hT⟩
  have HS := Lib.hid hS0
  clear hS0
  cases hm : mayB a k t n
  · have hE : putE a k t n = 1 := by simp [putE, hm]
    clear hrun
    go_enter Tryd.func3, Tryd.ntmps3
    go_wp2_with fail
    refine (hPut_any _ _ _ _ _ hT).mono ?_
    rintro e w1 ⟨rfl, hb1⟩
    have HS1 := Lib.hid (hold8 HS.out hb1)
    obtain ⟨p0, p1, p2, p3, q0, q1, q2, q3, hB1, hT1⟩ := HS1.out
    go_wp2_with fail
    refine (hPut_any _ _ _ _ _ hT1).mono ?_
    rintro e w2 ⟨rfl, hb2⟩
    clear p0 p1 p2 p3 q0 q1 q2 q3
    have HS2 := Lib.hid (hold8 HS1.out hb2)
    obtain ⟨p0, p1, p2, p3, q0, q1, q2, q3, hB2, hT2⟩ := HS2.out
    go_wp2_with (go_at_call 7; refine (hfixed_any _ hT2).mono ?_; rintro e w3 ⟨rfl, hb3⟩)
    go_ret
    exact ⟨rfl, hB2.trans (hb3.mono hB2.size)⟩
  · cases hm' : mayB a' k' t' n'
    · have hE : putE a k t n = 0 := by simp [putE, hm]
      have hE' : putE a' k' t' n' = 1 := by simp [putE, hm']
      clear hrun
      go_enter Tryd.func3, Tryd.ntmps3
      go_wp2_with fail
      refine (hPut_any _ _ _ _ _ hT).mono ?_
      rintro e w1 ⟨rfl, hb1⟩
      have HS1 := Lib.hid (hold8 HS.out hb1)
      obtain ⟨p0, p1, p2, p3, q0, q1, q2, q3, hB1, hT1⟩ := HS1.out
      go_wp2_with fail
      refine (hPut_any _ _ _ _ _ hT1).mono ?_
      rintro e w2 ⟨rfl, hb2⟩
      clear p0 p1 p2 p3 q0 q1 q2 q3
      have HS2 := Lib.hid (hold8 HS1.out hb2)
      obtain ⟨p0, p1, p2, p3, q0, q1, q2, q3, hB2, hT2⟩ := HS2.out
      go_wp2_with (go_at_call 7; refine (hfixed_any _ hT2).mono ?_; rintro e w3 ⟨rfl, hb3⟩)
      go_ret
      exact ⟨rfl, hB2.trans (hb3.mono hB2.size)⟩
    · have hE : putE a k t n = 0 := by simp [putE, hm]
      have hE' : putE a' k' t' n' = 0 := by simp [putE, hm']
      have hinj := putW_inj hm hm'
      obtain ⟨q, hq⟩ : ∃ q, headEq a k t n a' k' t' n' = q := ⟨_, rfl⟩
      rw [hq] at hrun hinj
      clear hq
      have hA : 2 ≤ sizeI a k t n := by simp [sizeI, hm]; omega
      have hAB : n ≤ max n' 1 ↔ sizeI a k t n ≤ sizeI a' k' t' n' := by simp [sizeI, hm, hm']; omega
      obtain ⟨sa, hsa⟩ : ∃ s, sizeI a k t n = s := ⟨_, rfl⟩
      obtain ⟨sb, hsb⟩ : ∃ s, sizeI a' k' t' n' = s := ⟨_, rfl⟩
      rw [hsa] at hA hAB
      rw [hsb] at hAB
      obtain ⟨m, hm9⟩ : ∃ m, (if n' < 1 then 1 else n') = m := ⟨_, rfl⟩
      obtain ⟨d, hd⟩ : ∃ d, decide (n ≤ m) = d := ⟨_, rfl⟩
      have hd2 : decide (sa ≤ sb) = d := by
        rw [← hd, ← hm9, decide_eq_decide, ← hAB]
        split <;> omega
      have hd3 : decide (2 ≤ sa) = true := by simpa using hA
      clear hAB
      go_enter Tryd.func3, Tryd.ntmps3
      go_wp2_with fail
      refine (hPut_any _ _ _ _ _ hT).mono ?_
      rintro e w1 ⟨rfl, hb1⟩
      have HS1 := Lib.hid (hold8 HS.out hb1)
      obtain ⟨p0, p1, p2, p3, q0, q1, q2, q3, hB1, hT1⟩ := HS1.out
      go_wp2_with fail
      refine (hPut_any _ _ _ _ _ hT1).mono ?_
      rintro e w2 ⟨rfl, hb2⟩
      clear p0 p1 p2 p3 q0 q1 q2 q3
      have HS2 := Lib.hid (hold8 HS1.out hb2)
      obtain ⟨p0, p1, p2, p3, q0, q1, q2, q3, hB2, hT2⟩ := HS2.out
      go_wp2
      have hSd : Hid (w2.drew.cell? ⟨w.heap.size, 0, none⟩ = some (.bool a) ∧ w2.drew.cell? ⟨w.heap.size, 1, none⟩ = some (.int .i64 k) ∧ w2.drew.cell? ⟨w.heap.size, 2, none⟩ = some (.int .i64 t) ∧ w2.drew.cell? ⟨w.heap.size, 3, none⟩ = some (.int .i64 n) ∧ w2.drew.cell? ⟨w.heap.size + 1, 0, none⟩ = some (.bool a') ∧ w2.drew.cell? ⟨w.heap.size + 1, 1, none⟩ = some (.int .i64 k') ∧ w2.drew.cell? ⟨w.heap.size + 1, 2, none⟩ = some (.int .i64 t') ∧ w2.drew.cell? ⟨w.heap.size + 1, 3, none⟩ = some (.int .i64 n') ∧ Below w.heap.size w w2.drew ∧ Tab w2.drew) := ⟨p0, p1, p2, p3, q0, q1, q2, q3, hB2.drew, hT2⟩
      clear hT hT1 hB1 hb1 hb2 HS HS1 HS2 hm hm' p0 p1 p2 p3 q0 q1 q2 q3 hB2 hT2
      go_region_held3 (fun w' => w'.cell? ⟨w.heap.size, 0, none⟩ = some (.bool a) ∧ w'.cell? ⟨w.heap.size, 1, none⟩ = some (.int .i64 k) ∧ w'.cell? ⟨w.heap.size, 2, none⟩ = some (.int .i64 t) ∧ w'.cell? ⟨w.heap.size, 3, none⟩ = some (.int .i64 n) ∧ w'.cell? ⟨w.heap.size + 1, 0, none⟩ = some (.bool a') ∧ w'.cell? ⟨w.heap.size + 1, 1, none⟩ = some (.int .i64 k') ∧ w'.cell? ⟨w.heap.size + 1, 2, none⟩ = some (.int .i64 t') ∧ w'.cell? ⟨w.heap.size + 1, 3, none⟩ = some (.int .i64 n') ∧ Below w.heap.size w w' ∧ Tab w') (first | assumption | exact hSd.out | exact hold8 (by assumption) (by assumption))
        (first | (go_at_call 8; refine (hSize_any _ _ _ _ _ ?_).mono ?_; (simp [*]); rintro e w' ⟨rfl, hb'⟩) | (go_at_call 7; refine (hfixed_any _ ?_).mono ?_; (simp [*]); rintro e w' ⟨rfl, hb'⟩))
      all_goals
        rename_i hS
        obtain ⟨_, _, _, _, _, _, _, _, hB3, hT3⟩ := hS
        go_wp2
        go_ret
        exact ⟨rfl, hB3⟩
end Go.Proofs.YtopjgcljdianoaaDoor
