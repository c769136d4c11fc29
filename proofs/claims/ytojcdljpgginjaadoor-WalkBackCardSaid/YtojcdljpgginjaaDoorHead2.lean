/-
  Contracts of kraalref08: May, Put, Size, Get; and of the comparison of two heads.
-/
import Derived.Test.YtojcdljpgginjaaDoorHead1
namespace Go.Proofs.YtojcdljpgginjaaDoor
open Go Go.RowKit

/-- Are two heads the same? -/
def headEq (a : Bool) (k t n : Int) (a' : Bool) (k' t' n' : Int) : Bool := decide (a = a' ∧ k = k' ∧ t = t' ∧ n = n')
theorem run_eqHead (a : Bool) (k t n : Int) (a' : Bool) (k' t' n' : Int) (w : World) :
    (binOp .eql 26 (.agg #[.bool a, .int .i64 k, .int .i64 t, .int .i64 n]) (.agg #[.bool a', .int .i64 k', .int .i64 t', .int .i64 n'])).run Tryd.prog w = .ok (.bool (headEq a k t n a' k' t' n')) w := by
  unfold headEq
  by_cases h1 : a = a'
  · by_cases h2 : k = k'
    · by_cases h3 : t = t'
      · by_cases h4 : n = n'
        · simp [h1, h2, h3, h4, go_sem]
        · simp [h1, h2, h3, h4, go_sem]
      · simp [h1, h2, h3, go_sem]
    · simp [h1, h2, go_sem]
  · simp [h1, go_sem]
theorem run_neHead (a : Bool) (k t n : Int) (a' : Bool) (k' t' n' : Int) (w : World) :
    (binOp .neq 26 (.agg #[.bool a, .int .i64 k, .int .i64 t, .int .i64 n]) (.agg #[.bool a', .int .i64 k', .int .i64 t', .int .i64 n'])).run Tryd.prog w = .ok (.bool (!(headEq a k t n a' k' t' n'))) w := by
  unfold headEq
  by_cases h1 : a = a'
  · by_cases h2 : k = k'
    · by_cases h3 : t = t'
      · by_cases h4 : n = n'
        · simp [h1, h2, h3, h4, go_sem]
        · simp [h1, h2, h3, h4, go_sem]
      · simp [h1, h2, h3, go_sem]
    · simp [h1, h2, go_sem]
  · simp [h1, go_sem]

theorem rMay_any (arr : Bool) (k t n : Int) (w : World) :
    Calls Tryd.prog 12 #[.agg #[.bool arr, .int .i64 k, .int .i64 t, .int .i64 n]] w fun e w' => e = .returned (.bool (mayB arr k t n)) ∧ Below w.heap.size w w' := by
  cases arr
  all_goals
    go_enter Tryd.func12, Tryd.ntmps12
    go_wp2
    all_goals
      go_ret
      refine ⟨ret_bool ?_, (Below.refl _ _).alloc (Nat.le_refl _) _⟩
      rw [Bool.eq_iff_iff]
      simp [mayB]
      try omega

theorem rPut_any (arr : Bool) (k t n : Int) (w : World) :
    Calls Tryd.prog 26 #[.agg #[.bool arr, .int .i64 k, .int .i64 t, .int .i64 n]] w fun e w' => e = .returned (.tuple #[.int .u64 (putW arr k t n), .int .i64 (putE arr k t n)]) ∧ Below w.heap.size w w' := by
  cases hb : mayB arr k t n
  · go_enter Tryd.func26, Tryd.ntmps26
    go_wp2_with (go_at_call 12; refine (rMay_any _ _ _ _ _).mono ?_; rintro e w' ⟨rfl, hb'⟩)
    go_ret2
    exact ⟨ret_int2 (by simp [putW, hb]) (by simp [putE, hb]), ((Below.refl _ _).alloc (Nat.le_refl _) _).trans (hb'.mono (by simp))⟩
  · obtain ⟨hk0, hk1, ht0, ht1, hn0, hn1⟩ := mayB_bd hb
    have hW : Hid (putW arr k t n = wordI arr k t n) := by show _ = _; simp [putW, hb]
    have hE : Hid (putE arr k t n = 0) := by show _ = _; simp [putE, hb]
    cases arr
    all_goals
      go_enter Tryd.func26, Tryd.ntmps26
      go_wp2_with (go_at_call 12; refine (rMay_any _ _ _ _ _).mono ?_; rintro e w' ⟨rfl, hb'⟩; obtain ⟨hc', hf', hs'⟩ := bcell hb'; simp only [World.size_alloc] at hs'; have hz1 := Nat.lt_of_succ_le hs')
      go_ret2
      rw [hW.out, hE.out]
      exact ⟨ret_int2 (by simp [wordI]; try omega) rfl, ((Below.refl _ _).alloc (Nat.le_refl _) _).trans (hb'.mono (by simp))⟩

theorem rSize_any (arr : Bool) (k t n : Int) (w : World) :
    Calls Tryd.prog 13 #[.agg #[.bool arr, .int .i64 k, .int .i64 t, .int .i64 n]] w fun e w' => e = .returned (.int .i64 (sizeI arr k t n)) ∧ Below w.heap.size w w' := by
  cases hb : mayB arr k t n
  · go_enter Tryd.func13, Tryd.ntmps13
    go_wp2_with (go_at_call 12; refine (rMay_any _ _ _ _ _).mono ?_; rintro e w' ⟨rfl, hb'⟩)
    go_ret
    exact ⟨ret_int (by simp [sizeI, hb]), ((Below.refl _ _).alloc (Nat.le_refl _) _).trans (hb'.mono (by simp))⟩
  · obtain ⟨hk0, hk1, ht0, ht1, hn0, hn1⟩ := mayB_bd hb
    go_enter Tryd.func13, Tryd.ntmps13
    go_wp2_with (go_at_call 12; refine (rMay_any _ _ _ _ _).mono ?_; rintro e w' ⟨rfl, hb'⟩; obtain ⟨hc', hf', hs'⟩ := bcell hb'; simp only [World.size_alloc] at hs'; have hz1 := Nat.lt_of_succ_le hs')
    all_goals
      go_ret
      refine ⟨ret_int (by simp [sizeI, hb]; try omega), ((Below.refl _ _).alloc (Nat.le_refl _) _).trans (hb'.mono (by simp))⟩


theorem getB_bd {x : Int} (h : getB x = true) : x / 65536 ≤ 4000 ∧ x % 65536 / 256 < 32 := by
  simp only [getB, Bool.and_eq_true, beq_iff_eq] at h
  obtain ⟨h1, h2⟩ := h
  obtain ⟨k0, k1, t0, t1, n0, n1⟩ := mayB_bd h1
  unfold wordI at h2
  cases hg : gA x <;> rw [hg] at h2 <;> simp only [cond_true, cond_false] at h2 <;> omega
theorem getB_ref (x : Int) (h : x / 65536 ≤ 4000) (h0 : 0 ≤ x) :
    getB x = (mayB (x % 65536 / 2 % 2 == 1) (x % 65536 / 4 % 4) (x % 65536 / 256) (x / 65536) && (wordI (x % 65536 / 2 % 2 == 1) (x % 65536 / 4 % 4) (x % 65536 / 256) (x / 65536) == x)) := by
  have e1 : (x % 65536 / 2 % 2 == 1) = gA x := by unfold gA; rw [show x % 65536 / 2 % 2 = x / 2 % 2 by omega]
  have e2 : x % 65536 / 4 % 4 = gK x := by unfold gK; omega
  have e4 : x / 65536 = gN x := by unfold gN; omega
  by_cases ht : x % 65536 / 256 < 32
  · have e3 : x % 65536 / 256 = gT x := by unfold gT; omega
    rw [e1, e2, e3, e4]; rfl
  · have : getB x = false := by
      cases hb : getB x
      · rfl
      · exact absurd (getB_bd hb).2 ht
    rw [this]
    cases hm : mayB (x % 65536 / 2 % 2 == 1) (x % 65536 / 4 % 4) (x % 65536 / 256) (x / 65536)
    · rfl
    · have := mayB_bd hm; omega

theorem rGet_any (x : Int) (w : World) (hx0 : 0 ≤ x) (hx1 : x < 18446744073709551616) :
    Calls Tryd.prog 36 #[.int .u64 x] w fun e w' => e = .returned (.tuple #[getV x, .int .i64 (getE x)]) ∧ Below w.heap.size w w' := by
  by_cases hn : 4000 < x / 65536
  · have hv : getB x = false := by
      cases hb : getB x
      · rfl
      · have := (getB_bd hb).1; omega
    go_enter Tryd.func36, Tryd.ntmps36
    go_wp2
    refine bodyPost_ret (v := .tuple #[.agg #[.bool false, .int .i64 0, .int .i64 0, .int .i64 0], .int .i64 11]) (by simp [results, Tryd.results36, go_sem]) rfl ⟨by simp [getV, getE, hv], ?_⟩
    exact (Below.refl _ _).alloc (Nat.le_refl _) _
  · have hg := getB_ref x (by omega) hx0
    have hV : getB x = true → getV x = .agg #[.bool (x % 65536 / 2 % 2 == 1), .int .i64 (x % 65536 / 4 % 4), .int .i64 (x % 65536 / 256), .int .i64 (x / 65536)] := by
      intro h
      have := getB_bd h
      simp only [getV, h, if_true]
      have e1 : (x % 65536 / 2 % 2 == 1) = gA x := by unfold gA; rw [show x % 65536 / 2 % 2 = x / 2 % 2 by omega]
      have e2 : x % 65536 / 4 % 4 = gK x := by unfold gK; omega
      have e4 : x / 65536 = gN x := by unfold gN; omega
      have e3 : x % 65536 / 256 = gT x := by unfold gT; omega
      rw [e1, e2, e3, e4]
    obtain ⟨r, hr⟩ : ∃ r, (x % 65536 / 2 % 2 == 1) = r := ⟨_, rfl⟩
    obtain ⟨k, hk⟩ : ∃ r, x % 65536 / 4 % 4 = r := ⟨_, rfl⟩
    obtain ⟨t, ht⟩ : ∃ r, x % 65536 / 256 = r := ⟨_, rfl⟩
    obtain ⟨n, hn⟩ : ∃ r, x / 65536 = r := ⟨_, rfl⟩
    rw [hr, hk, ht, hn] at hg hV
    cases hb : mayB r k t n
    · have hv : getB x = false := by rw [hg, hb]; rfl
      have hE : putE r k t n = 1 := by simp [putE, hb]
      have HX : Hid (getV x = .agg #[.bool false, .int .i64 0, .int .i64 0, .int .i64 0]) := by show _ = _; simp [getV, hv]
      have HY : Hid (getE x = 11) := by show _ = _; simp [getE, hv]
      clear hg hV hv
      go_enter Tryd.func36, Tryd.ntmps36
      go_wp2_with (go_at_call 26; refine (rPut_any _ _ _ _ _).mono ?_; rintro e w' ⟨rfl, hb'⟩; obtain ⟨hc', hf', hs'⟩ := bcell hb'; simp only [World.size_alloc] at hs'; have hz1 := Nat.lt_of_succ_le hs'; have hz2 := Nat.lt_of_succ_lt hz1)
      have c0 : w'.cell? ⟨w.heap.size, 0, none⟩ = some (.bool false) := by rw [hc' _ _ (by simp; omega)]; simp
      have c1 : w'.cell? ⟨w.heap.size, 1, none⟩ = some (.int .i64 0) := by rw [hc' _ _ (by simp; omega)]; simp
      have c2 : w'.cell? ⟨w.heap.size, 2, none⟩ = some (.int .i64 0) := by rw [hc' _ _ (by simp; omega)]; simp
      have c3 : w'.cell? ⟨w.heap.size, 3, none⟩ = some (.int .i64 0) := by rw [hc' _ _ (by simp; omega)]; simp
      rw [HX.out, HY.out]
      refine bodyPost_ret (v := .tuple #[.agg #[.bool false, .int .i64 0, .int .i64 0, .int .i64 0], .int .i64 11]) (by simp [results, Tryd.results36, go_sem, c0, c1, c2, c3]) rfl ⟨rfl, ?_⟩
      refine Below.setCell (Below.setCell (Below.setCell (Below.setCell ?_ (by simp) _) (by simp) _) (by simp) _) (by simp) _
      exact (((Below.refl _ _).alloc (Nat.le_refl _) _).alloc (by simp) _).trans (hb'.mono (by simp; omega))
    · have hE : putE r k t n = 0 := by simp [putE, hb]
      have hW : putW r k t n = wordI r k t n := by simp [putW, hb]
      by_cases hw : wordI r k t n = x
      · have hv : getB x = true := by rw [hg, hb]; simp [hw]
        have hw1 : (wordI r k t n != x) = false := by simp [hw]
        have HX : Hid (getV x = .agg #[.bool r, .int .i64 k, .int .i64 t, .int .i64 n]) := hV hv
        have HY : Hid (getE x = 0) := by show _ = _; simp [getE, hv]
        clear hg hV hv hw
        go_enter Tryd.func36, Tryd.ntmps36
        go_wp2_with (go_at_call 26; refine (rPut_any _ _ _ _ _).mono ?_; rintro e w' ⟨rfl, hb'⟩; obtain ⟨hc', hf', hs'⟩ := bcell hb'; simp only [World.size_alloc] at hs'; have hz1 := Nat.lt_of_succ_le hs'; have hz2 := Nat.lt_of_succ_lt hz1)
        have c0 : w'.cell? ⟨w.heap.size, 0, none⟩ = some (.bool false) := by rw [hc' _ _ (by simp; omega)]; simp
        have c1 : w'.cell? ⟨w.heap.size, 1, none⟩ = some (.int .i64 0) := by rw [hc' _ _ (by simp; omega)]; simp
        have c2 : w'.cell? ⟨w.heap.size, 2, none⟩ = some (.int .i64 0) := by rw [hc' _ _ (by simp; omega)]; simp
        have c3 : w'.cell? ⟨w.heap.size, 3, none⟩ = some (.int .i64 0) := by rw [hc' _ _ (by simp; omega)]; simp
        rw [HX.out, HY.out]
        refine bodyPost_ret (v := .tuple #[.agg #[.bool r, .int .i64 k, .int .i64 t, .int .i64 n], .int .i64 0]) (by simp [results, Tryd.results36, go_sem, c0, c1, c2, c3]) rfl ⟨rfl, ?_⟩
        refine Below.setCell (Below.setCell (Below.setCell (Below.setCell ?_ (by simp) _) (by simp) _) (by simp) _) (by simp) _
        exact (((Below.refl _ _).alloc (Nat.le_refl _) _).alloc (by simp) _).trans (hb'.mono (by simp; omega))
      · have hv : getB x = false := by rw [hg, hb]; simp [hw]
        have hw1 : (wordI r k t n != x) = true := by simp [hw]
        have HX : Hid (getV x = .agg #[.bool false, .int .i64 0, .int .i64 0, .int .i64 0]) := by show _ = _; simp [getV, hv]
        have HY : Hid (getE x = 11) := by show _ = _; simp [getE, hv]
        clear hg hV hv
        go_enter Tryd.func36, Tryd.ntmps36
        go_wp2_with (go_at_call 26; refine (rPut_any _ _ _ _ _).mono ?_; rintro e w' ⟨rfl, hb'⟩; obtain ⟨hc', hf', hs'⟩ := bcell hb'; simp only [World.size_alloc] at hs'; have hz1 := Nat.lt_of_succ_le hs'; have hz2 := Nat.lt_of_succ_lt hz1)
        have c0 : w'.cell? ⟨w.heap.size, 0, none⟩ = some (.bool false) := by rw [hc' _ _ (by simp; omega)]; simp
        have c1 : w'.cell? ⟨w.heap.size, 1, none⟩ = some (.int .i64 0) := by rw [hc' _ _ (by simp; omega)]; simp
        have c2 : w'.cell? ⟨w.heap.size, 2, none⟩ = some (.int .i64 0) := by rw [hc' _ _ (by simp; omega)]; simp
        have c3 : w'.cell? ⟨w.heap.size, 3, none⟩ = some (.int .i64 0) := by rw [hc' _ _ (by simp; omega)]; simp
        rw [HX.out, HY.out]
        refine bodyPost_ret (v := .tuple #[.agg #[.bool false, .int .i64 0, .int .i64 0, .int .i64 0], .int .i64 11]) (by simp [results, Tryd.results36, go_sem, c0, c1, c2, c3]) rfl ⟨rfl, ?_⟩
        refine Below.setCell (Below.setCell (Below.setCell (Below.setCell ?_ (by simp) _) (by simp) _) (by simp) _) (by simp) _
        exact (((Below.refl _ _).alloc (Nat.le_refl _) _).alloc (by simp) _).trans (hb'.mono (by simp; omega))
end Go.Proofs.YtojcdljpgginjaaDoor
