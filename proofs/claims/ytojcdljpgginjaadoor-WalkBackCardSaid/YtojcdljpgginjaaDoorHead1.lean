/-
  Contracts of header.may, header.word, header.Put, header.Size, header.Get.
-/
import Derived.Test.YtojcdljpgginjaaDoorDescs
namespace Go.Proofs.YtojcdljpgginjaaDoor
open Go Go.RowKit

/-- A head as a value. -/
def headV (arr : Bool) (k t n : Int) : Value := .agg #[.bool arr, .int .i64 k, .int .i64 t, .int .i64 n]

/-- Whether a head may be. -/
def mayB (arr : Bool) (k t n : Int) : Bool := bif arr then decide (0 ≤ k ∧ k < 4 ∧ 0 ≤ n ∧ n ≤ 4000 ∧ t = 0) else decide (k = 0 ∧ 0 ≤ t ∧ t < 32 ∧ 1 ≤ n ∧ n ≤ 60)

theorem hmay_any (arr : Bool) (k t n : Int) (w : World) (h0 : Tab w) :
    Calls Tryd.prog 38 #[.agg #[.bool arr, .int .i64 k, .int .i64 t, .int .i64 n]] w fun e w' => e = .returned (.bool (mayB arr k t n)) ∧ Below w.heap.size w w' := by
  have hT := h0.alloc (.cells #[.bool arr, .int .i64 k, .int .i64 t, .int .i64 n] 26)
  cases arr
  · go_enter Tryd.func38, Tryd.ntmps38
    go_wp2
    all_goals
      go_ret
      refine ⟨ret_bool ?_, (Below.refl _ _).alloc (Nat.le_refl _) _⟩
      rw [Bool.eq_iff_iff]
      simp [mayB]
      try omega
  · by_cases hk : 0 ≤ k ∧ k < 4
    · have hb : kindB k = true := by simpa [kindB] using hk
      go_enter Tryd.func38, Tryd.ntmps38
      go_wp2_with (go_at_call 43; refine (Kind_any _ _ ‹_›).mono ?_; rintro e w' ⟨rfl, rfl⟩)
      all_goals
        go_ret
        refine ⟨ret_bool ?_, (Below.refl _ _).alloc (Nat.le_refl _) _⟩
        rw [Bool.eq_iff_iff]
        simp [mayB]
        try omega
    · have hb : kindB k = false := by simpa [kindB] using hk
      go_enter Tryd.func38, Tryd.ntmps38
      go_wp2_with (go_at_call 43; refine (Kind_any _ _ ‹_›).mono ?_; rintro e w' ⟨rfl, rfl⟩)
      all_goals
        go_ret
        refine ⟨ret_bool ?_, (Below.refl _ _).alloc (Nat.le_refl _) _⟩
        rw [Bool.eq_iff_iff]
        simp [mayB]
        try omega

/-- A head's word. -/
def wordI (arr : Bool) (k t n : Int) : Int := 1 + 4 * k + 256 * t + 65536 * n + bif arr then 2 else 0

theorem or_join (i x y : Nat) (hx : x % 2 ^ i = 0) (hy : y < 2 ^ i) : y ||| x = x + y := by
  rw [Nat.or_comm]; exact nat_join i x y hx hy
theorem or1 (k : Int) (h0 : 0 ≤ k) (h1 : k < 4) : bits .or .u64 1 (k * 4) = 1 + 4 * k := by
  rw [u64_or _ _ (by omega) (by omega) (by omega) (by omega), show (1 : Int).toNat = 1 from rfl, or_join 2 _ _ (by omega) (by omega)]; omega
theorem or2 (a t : Int) (ha : 0 ≤ a) (ha2 : a < 256) (h0 : 0 ≤ t) (h1 : t < 32) : bits .or .u64 a (t * 256) = a + 256 * t := by
  rw [u64_or _ _ (by omega) (by omega) (by omega) (by omega), or_join 8 _ _ (by omega) (by omega)]; omega
theorem or3 (a n : Int) (ha : 0 ≤ a) (ha2 : a < 65536) (h0 : 0 ≤ n) (h1 : n < 65536) : bits .or .u64 a (n * 65536) = a + 65536 * n := by
  rw [u64_or _ _ (by omega) (by omega) (by omega) (by omega), or_join 16 _ _ (by omega) (by omega)]; omega
theorem or4 (a : Int) (ha : 0 ≤ a) (ha2 : a < 4294967296) (h : a % 4 = 1) : bits .or .u64 a 2 = a + 2 := by
  rw [u64_or _ _ (by omega) (by omega) (by omega) (by omega)]
  obtain ⟨q, hq⟩ : ∃ q, a.toNat = 4 * q + 1 := ⟨a.toNat / 4, by omega⟩
  have e1 : 4 * q + 1 = 4 * q ||| 1 := (nat_join 2 (4 * q) 1 (by omega) (by omega)).symm
  have e2 : (4 * q ||| 3) = 4 * q + 3 := nat_join 2 (4 * q) 3 (by omega) (by omega)
  have : a.toNat ||| (2 : Int).toNat = a.toNat + 2 := by
    rw [hq, e1, Nat.or_assoc, show (1 ||| (2 : Int).toNat) = 3 from rfl, e2]
    omega
  rw [this]; omega

theorem word_any (arr : Bool) (k t n : Int) (w : World) (hk0 : 0 ≤ k) (hk1 : k < 4) (ht0 : 0 ≤ t) (ht1 : t < 32) (hn0 : 0 ≤ n) (hn1 : n ≤ 4000) :
    Calls Tryd.prog 39 #[.agg #[.bool arr, .int .i64 k, .int .i64 t, .int .i64 n]] w fun e w' => e = .returned (.int .u64 (wordI arr k t n)) ∧ Below w.heap.size w w' := by
  cases arr
  all_goals
    go_enter Tryd.func39, Tryd.ntmps39
    go_wp2
    go_ret
    refine ⟨ret_int ?_, (Below.refl _ _).alloc (Nat.le_refl _) _⟩
    rw [or1 k (by omega) (by omega), or2 _ t (by omega) (by omega) (by omega) (by omega), or3 _ n (by omega) (by omega) (by omega) (by omega)]
    try rw [or4 _ (by omega) (by omega) (by omega)]
    simp [wordI]

theorem mayB_bd {arr : Bool} {k t n : Int} (h : mayB arr k t n = true) : 0 ≤ k ∧ k < 4 ∧ 0 ≤ t ∧ t < 32 ∧ 0 ≤ n ∧ n ≤ 4000 := by
  cases arr <;> simp [mayB] at h <;> omega

/-- What Put answers. -/
def putW (arr : Bool) (k t n : Int) : Int := if mayB arr k t n = true then wordI arr k t n else 0
def putE (arr : Bool) (k t n : Int) : Int := if mayB arr k t n = true then 0 else 1

theorem hPut_any (arr : Bool) (k t n : Int) (w : World) (h0 : Tab w) :
    Calls Tryd.prog 24 #[.agg #[.bool arr, .int .i64 k, .int .i64 t, .int .i64 n]] w fun e w' => e = .returned (.tuple #[.int .u64 (putW arr k t n), .int .i64 (putE arr k t n)]) ∧ Below w.heap.size w w' := by
  have hT := h0.alloc (.cells #[.bool arr, .int .i64 k, .int .i64 t, .int .i64 n] 26)
  cases hb : mayB arr k t n
  · go_enter Tryd.func24, Tryd.ntmps24
    go_wp2_with (go_at_call 38; refine (hmay_any _ _ _ _ _ ‹_›).mono ?_; rintro e w' ⟨rfl, hb'⟩)
    go_ret2
    exact ⟨ret_int2 (by simp [putW, hb]) (by simp [putE, hb]), ((Below.refl _ _).alloc (Nat.le_refl _) _).trans (hb'.mono (by simp))⟩
  · obtain ⟨hk0, hk1, ht0, ht1, hn0, hn1⟩ := mayB_bd hb
    go_enter Tryd.func24, Tryd.ntmps24
    go_wp2_with (first | (go_at_call 38; refine (hmay_any _ _ _ _ _ ‹_›).mono ?_; rintro e w' ⟨rfl, hb'⟩; obtain ⟨hc', hf', hs'⟩ := bcell hb'; simp at hs') | (go_at_call 39; refine (word_any _ _ _ _ _ (by omega) (by omega) (by omega) (by omega) (by omega) (by omega)).mono ?_; rintro e w2 ⟨rfl, hb2⟩))
    go_ret2
    exact ⟨ret_int2 (by simp [putW, hb]) (by simp [putE, hb]), (((Below.refl _ _).alloc (Nat.le_refl _) _).trans (hb'.mono (by simp))).trans (hb2.mono (by have := hb'.size; simp at this; omega))⟩

/-- What Size answers. -/
def sizeI (arr : Bool) (k t n : Int) : Int := if mayB arr k t n = true then 1 + max n 1 else 0

theorem hSize_any (arr : Bool) (k t n : Int) (w : World) (h0 : Tab w) :
    Calls Tryd.prog 25 #[.agg #[.bool arr, .int .i64 k, .int .i64 t, .int .i64 n]] w fun e w' => e = .returned (.int .i64 (sizeI arr k t n)) ∧ Below w.heap.size w w' := by
  have hT := h0.alloc (.cells #[.bool arr, .int .i64 k, .int .i64 t, .int .i64 n] 26)
  cases hb : mayB arr k t n
  · go_enter Tryd.func25, Tryd.ntmps25
    go_wp2_with (go_at_call 38; refine (hmay_any _ _ _ _ _ ‹_›).mono ?_; rintro e w' ⟨rfl, hb'⟩)
    go_ret
    exact ⟨ret_int (by simp [sizeI, hb]), ((Below.refl _ _).alloc (Nat.le_refl _) _).trans (hb'.mono (by simp))⟩
  · obtain ⟨hk0, hk1, ht0, ht1, hn0, hn1⟩ := mayB_bd hb
    go_enter Tryd.func25, Tryd.ntmps25
    go_wp2_with (first | (go_at_call 38; refine (hmay_any _ _ _ _ _ ‹_›).mono ?_; rintro e w' ⟨rfl, hb'⟩; obtain ⟨hc', hf', hs'⟩ := bcell hb'; simp at hs'))
    all_goals
      go_ret
      refine ⟨ret_int (by simp [sizeI, hb]; try omega), ((Below.refl _ _).alloc (Nat.le_refl _) _).trans (hb'.mono (by simp))⟩

theorem and_mask (x : Int) (i : Nat) (hi : i ≤ 32) (h0 : 0 ≤ x) (h1 : x < 18446744073709551616) : bits .and .u64 x ((2 ^ i - 1 : Nat) : Int) = x % (2 ^ i : Nat) := by
  have h2 : 2 ^ i ≤ 2 ^ 32 := Nat.pow_le_pow_right (by omega) hi
  have h3 : 0 < 2 ^ i := Nat.pow_pos (by omega)
  obtain ⟨m, rfl⟩ := Int.eq_ofNat_of_zero_le h0
  rw [u64_and _ _ h0 h1 (by omega) (by omega)]
  rw [Int.toNat_natCast, show (((2 ^ i - 1 : Nat) : Int)).toNat = 2 ^ i - 1 from by omega, Nat.and_two_pow_sub_one_eq_mod]
  rfl

/-- The parts of a word; whether they are a head's whose word it is. -/
def gA (x : Int) : Bool := x / 2 % 2 == 1
def gK (x : Int) : Int := x / 4 % 4
def gT (x : Int) : Int := x / 256 % 32
def gN (x : Int) : Int := x / 65536 % 65536
def getB (x : Int) : Bool := mayB (gA x) (gK x) (gT x) (gN x) && (wordI (gA x) (gK x) (gT x) (gN x) == x)
def getV (x : Int) : Value := if getB x = true then .agg #[.bool (gA x), .int .i64 (gK x), .int .i64 (gT x), .int .i64 (gN x)] else .agg #[.bool false, .int .i64 0, .int .i64 0, .int .i64 0]
def getE (x : Int) : Int := if getB x = true then 0 else 11

theorem hGet_any (x : Int) (w : World) (h0 : Tab w) (hx0 : 0 ≤ x) (hx1 : x < 18446744073709551616) :
    Calls Tryd.prog 34 #[.int .u64 x] w fun e w' => e = .returned (.tuple #[getV x, .int .i64 (getE x)]) ∧ Below w.heap.size w w' := by
  obtain ⟨a, ha, Ha⟩ : ∃ a, bits .and .u64 (x / 2) 1 = a ∧ a = x / 2 % 2 := ⟨_, and_mask (x / 2) 1 (by omega) (by omega) (by omega), rfl⟩
  obtain ⟨k, hk, Hk⟩ : ∃ a, bits .and .u64 (x / 4) 3 = a ∧ a = gK x := ⟨_, and_mask (x / 4) 2 (by omega) (by omega) (by omega), rfl⟩
  obtain ⟨t, ht, Ht⟩ : ∃ a, bits .and .u64 (x / 256) 31 = a ∧ a = gT x := ⟨_, and_mask (x / 256) 5 (by omega) (by omega) (by omega), rfl⟩
  obtain ⟨n, hn, Hn⟩ : ∃ a, bits .and .u64 (x / 65536) 65535 = a ∧ a = gN x := ⟨_, and_mask (x / 65536) 16 (by omega) (by omega) (by omega), rfl⟩
  have hk0 : 0 ≤ k := by unfold gK at Hk; omega
  have hk1 : k < 4 := by unfold gK at Hk; omega
  have ht0 : 0 ≤ t := by unfold gT at Ht; omega
  have ht1 : t < 32 := by unfold gT at Ht; omega
  have hn0 : 0 ≤ n := by unfold gN at Hn; omega
  have hn1 : n < 65536 := by unfold gN at Hn; omega
  have Ha' : (a == 1) = gA x := by rw [Ha]; rfl
  have HV : Hid (getB x = (mayB (a == 1) k t n && (wordI (a == 1) k t n == x))) := by show _ = _; rw [Ha', Hk, Ht, Hn]; rfl
  have HT : Hid (getV x = if getB x = true then .agg #[.bool (a == 1), .int .i64 k, .int .i64 t, .int .i64 n] else .agg #[.bool false, .int .i64 0, .int .i64 0, .int .i64 0]) := by show _ = _; rw [Ha', Hk, Ht, Hn]; rfl
  clear Ha Hk Ht Hn Ha'
  obtain ⟨r, hr⟩ : ∃ r, (a == 1) = r := ⟨_, rfl⟩
  have hT : Tab ((w.alloc (Obj.cells #[.bool false, .int .i64 0, .int .i64 0, .int .i64 0] 26)).alloc (Obj.cells #[.bool r, .int .i64 k, .int .i64 t, .int .i64 n] 26)) := (h0.alloc _).alloc _
  rw [hr] at HV HT
  cases hb : mayB r k t n
  · go_enter Tryd.func34, Tryd.ntmps34
    go_wp2_with (go_at_call 38; refine (hmay_any _ _ _ _ _ ‹_›).mono ?_; rintro e w' ⟨rfl, hb'⟩; obtain ⟨hc', hf', hs'⟩ := bcell hb'; simp only [World.size_alloc] at hs'; have hz1 := Nat.lt_of_succ_le hs'; have hz2 := Nat.lt_of_succ_lt hz1)
    have hv : getB x = false := by rw [HV.out, hb]; rfl
    have c0 : w'.cell? ⟨w.heap.size, 0, none⟩ = some (.bool false) := by rw [hc' _ _ (by simp; omega)]; simp
    have c1 : w'.cell? ⟨w.heap.size, 1, none⟩ = some (.int .i64 0) := by rw [hc' _ _ (by simp; omega)]; simp
    have c2 : w'.cell? ⟨w.heap.size, 2, none⟩ = some (.int .i64 0) := by rw [hc' _ _ (by simp; omega)]; simp
    have c3 : w'.cell? ⟨w.heap.size, 3, none⟩ = some (.int .i64 0) := by rw [hc' _ _ (by simp; omega)]; simp
    refine bodyPost_ret (v := .tuple #[.agg #[.bool false, .int .i64 0, .int .i64 0, .int .i64 0], .int .i64 11]) (by simp [results, Tryd.results34, go_sem, c0, c1, c2, c3]) rfl ⟨by simp [getV, getE, hv], ?_⟩
    refine Below.setCell (Below.setCell (Below.setCell (Below.setCell ?_ (by simp) _) (by simp) _) (by simp) _) (by simp) _
    exact (((Below.refl _ _).alloc (Nat.le_refl _) _).alloc (by simp) _).trans (hb'.mono (by simp; omega))
  · have hbd := mayB_bd hb
    by_cases hw : wordI r k t n = x
    · have hv : getB x = true := by rw [HV.out, hb]; simp [hw]
      have hw1 : (wordI r k t n != x) = false := by simp [hw]
      have hE : Hid (getE x = 0) := by show _ = _; simp [getE, hv]
      have HT2 : Hid (getV x = .agg #[.bool r, .int .i64 k, .int .i64 t, .int .i64 n]) := by show _ = _; rw [HT.out, if_pos hv]
      clear hw HV HT hv
      rcases (show r = true ∨ (r = false ∧ k = 0 ∧ 1 ≤ n ∧ t = 0) ∨ (r = false ∧ k = 0 ∧ 1 ≤ n ∧ 1 ≤ t) by cases r <;> simp [mayB] at hb ⊢; omega) with rfl | ⟨rfl, rfl, hn2, rfl⟩ | ⟨rfl, rfl, hn2, ht2⟩
      all_goals
        go_enter Tryd.func34, Tryd.ntmps34
        go_wp2_with (first | (go_at_call 38; refine (hmay_any _ _ _ _ _ ‹_›).mono ?_; rintro e w' ⟨rfl, hb'⟩; obtain ⟨hc', hf', hs'⟩ := bcell hb'; simp only [World.size_alloc] at hs'; have hz1 := Nat.lt_of_succ_le hs'; have hz2 := Nat.lt_of_succ_lt hz1) | (go_at_call 39; refine (word_any _ _ _ _ _ (by omega) (by omega) (by omega) (by omega) (by omega) (by omega)).mono ?_; rintro e w2 ⟨rfl, hb2⟩; obtain ⟨hc2, hf2, hs2⟩ := bcell hb2))
        have c0 : w2.cell? ⟨w.heap.size, 0, none⟩ = some (.bool false) := by rw [hc2 _ _ (by omega), hc' _ _ (by simp; omega)]; simp
        have c1 : w2.cell? ⟨w.heap.size, 1, none⟩ = some (.int .i64 0) := by rw [hc2 _ _ (by omega), hc' _ _ (by simp; omega)]; simp
        have c2 : w2.cell? ⟨w.heap.size, 2, none⟩ = some (.int .i64 0) := by rw [hc2 _ _ (by omega), hc' _ _ (by simp; omega)]; simp
        have c3 : w2.cell? ⟨w.heap.size, 3, none⟩ = some (.int .i64 0) := by rw [hc2 _ _ (by omega), hc' _ _ (by simp; omega)]; simp
        rw [HT2.out, hE.out]
        refine bodyPost_ret (v := .tuple #[.agg #[.bool _, .int .i64 _, .int .i64 _, .int .i64 n], .int .i64 0]) (by simp [results, Tryd.results34, go_sem, c0, c1, c2, c3]) rfl ⟨rfl, ?_⟩
        refine Below.setCell (Below.setCell (Below.setCell (Below.setCell ?_ (by simp) _) (by simp) _) (by simp) _) (by simp) _
        exact ((((Below.refl _ _).alloc (Nat.le_refl _) _).alloc (by simp) _).trans (hb'.mono (by simp; omega))).trans (hb2.mono (by omega))
    · have hv : getB x = false := by rw [HV.out, hb]; simp [hw]
      have hw1 : (wordI r k t n != x) = true := by simp [hw]
      go_enter Tryd.func34, Tryd.ntmps34
      go_wp2_with (first | (go_at_call 38; refine (hmay_any _ _ _ _ _ ‹_›).mono ?_; rintro e w' ⟨rfl, hb'⟩; obtain ⟨hc', hf', hs'⟩ := bcell hb'; simp only [World.size_alloc] at hs'; have hz1 := Nat.lt_of_succ_le hs'; have hz2 := Nat.lt_of_succ_lt hz1) | (go_at_call 39; refine (word_any _ _ _ _ _ (by omega) (by omega) (by omega) (by omega) (by omega) (by omega)).mono ?_; rintro e w2 ⟨rfl, hb2⟩; obtain ⟨hc2, hf2, hs2⟩ := bcell hb2))
      have c0 : w2.cell? ⟨w.heap.size, 0, none⟩ = some (.bool false) := by rw [hc2 _ _ (by omega), hc' _ _ (by simp; omega)]; simp
      have c1 : w2.cell? ⟨w.heap.size, 1, none⟩ = some (.int .i64 0) := by rw [hc2 _ _ (by omega), hc' _ _ (by simp; omega)]; simp
      have c2 : w2.cell? ⟨w.heap.size, 2, none⟩ = some (.int .i64 0) := by rw [hc2 _ _ (by omega), hc' _ _ (by simp; omega)]; simp
      have c3 : w2.cell? ⟨w.heap.size, 3, none⟩ = some (.int .i64 0) := by rw [hc2 _ _ (by omega), hc' _ _ (by simp; omega)]; simp
      refine bodyPost_ret (v := .tuple #[.agg #[.bool false, .int .i64 0, .int .i64 0, .int .i64 0], .int .i64 11]) (by simp [results, Tryd.results34, go_sem, c0, c1, c2, c3]) rfl ⟨by simp [getV, getE, hv], ?_⟩
      refine Below.setCell (Below.setCell (Below.setCell (Below.setCell ?_ (by simp) _) (by simp) _) (by simp) _) (by simp) _
      exact ((((Below.refl _ _).alloc (Nat.le_refl _) _).alloc (by simp) _).trans (hb'.mono (by simp; omega))).trans (hb2.mono (by omega))
end Go.Proofs.YtojcdljpgginjaaDoor
