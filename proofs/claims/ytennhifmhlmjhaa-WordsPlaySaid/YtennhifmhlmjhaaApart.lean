/-
  The chapter's example of layer 1; the walk of WordsApart.
-/
import Derived.Test.YtennhifmhlmjhaaWords2
namespace Go.Proofs.Ytennhifmhlmjhaa
open Go Go.RowKit

theorem wfixed_any (w : World) : Calls Try.prog 11 #[] w fun e w' => e = .returned (.bool true) ∧ Below w.heap.size w w' := by
  have e1 : Hid (wrE (List.replicate 4 (0 : Int)).length 1 = 0) := by show _ = _; decide
  have e2 : Hid (rdV (wrL (List.replicate 4 0) 1 7) 1 = 7) := by show _ = _; decide
  have e3 : Hid (wrE (wrL (List.replicate 4 0) 1 7).length 1 = 0) := by show _ = _; decide
  have e4 : Hid (wrE (wrL (List.replicate 4 0) 1 7).length 4 = 8) := by show _ = _; decide
  go_enter Try.func11, Try.ntmps11
  go_wp2_with fail
  refine (wNew_any 4 _ (by omega)).mono ?_
  rintro e w1 ⟨rfl, hb1, hM1⟩
  go_wp2_with fail
  refine (wWrite_any _ _ _ _ _ _ hM1).mono ?_
  rw [e1.out]
  rintro e w2 ⟨rfl, hg2, hM2⟩
  go_wp2_with fail
  refine (wRead_any _ _ _ _ _ hM2).mono ?_
  rw [e2.out, e3.out]
  rintro e w3 ⟨rfl, rfl⟩
  go_wp2_with fail
  refine (wRead_any _ _ _ _ _ hM2).mono ?_
  rw [e4.out]
  rintro e w3 ⟨rfl, rfl⟩
  go_wp2
  go_ret
  exact ⟨rfl, below_grown hb1 hg2 hb1.size (Nat.le_refl _)⟩

theorem apart1_any (i : Int) (p : Nat) (k : Int) (w : World) (hc : w.cell? ⟨p, 0, none⟩ = some (.int .i64 k)) :
    Calls Try.prog 8 #[.int .i64 i, .pointer (some ⟨p, 0, none⟩)] w fun e w' => e = .returned (.bool (decide (0 ≤ i ∧ i < k))) ∧ w = w' := by
  go_enter Try.func8, Try.ntmps8
  go_wp2
  all_goals
    go_ret
    exact ⟨ret_bool (by rw [Bool.eq_iff_iff]; simp; try omega), rfl⟩

/-- What lies at a place behind two writes. -/
theorem two_writes (k : Nat) (a b v u : Int) (i : Nat) (hi : i < k) :
    (wrL (wrL (List.replicate k 0) a v) b u)[i]?.getD 0 = if (i : Int) = b then u else if (i : Int) = a then v else 0 := by
  have key : ∀ (xs : List Int) (c x : Int), i < xs.length → (wrL xs c x)[i]?.getD 0 = if (i : Int) = c then x else xs[i]?.getD 0 := by
    intro xs c x h
    unfold wrL
    by_cases hc : inB xs.length c = true
    · rw [if_pos hc]
      simp [inB] at hc
      obtain ⟨m, rfl⟩ := Int.eq_ofNat_of_zero_le hc.1
      rw [Int.toNat_natCast, List.getElem?_set]
      by_cases e : m = i
      · subst e; simp [h]
      · rw [if_neg e, if_neg (by omega)]
    · rw [if_neg hc, if_neg]
      intro e; subst e; simp [inB] at hc; omega
  rw [key _ _ _ (by rw [wrL_length]; simpa using hi), key _ _ _ (by simpa using hi)]
  simp [hi]

theorem WordsApart_any (n : Int) (a b v u : Int) (w : World) (hn0 : 0 ≤ n) (hn1 : n ≤ 65535) :
    Calls Try.prog 3 #[.int .u16 n, .agg #[.int .i64 a, .int .i64 b], .agg #[.int .u64 v, .int .u64 u]] w fun e w' => e = .returned (.bool true) ∧ Below w.heap.size w w' := by
  obtain ⟨k, hk, hk0, hk1⟩ : ∃ k : Nat, (1 + n % 300 = (k : Int)) ∧ 1 ≤ k ∧ k ≤ 300 := ⟨(1 + n % 300).toNat, by omega, by omega, by omega⟩
  obtain ⟨ia, h1, h2⟩ : ∃ q, decide (0 ≤ a ∧ a < (k : Int)) = q ∧ (wrE k a == 0) = q := ⟨_, rfl, by unfold wrE inB; split <;> simp_all⟩
  obtain ⟨ib, h3, h4⟩ : ∃ q, decide (0 ≤ b ∧ b < (k : Int)) = q ∧ (wrE k b == 0) = q := ⟨_, rfl, by unfold wrE inB; split <;> simp_all⟩
  have hzs := two_writes k a b v u
  have hzl : (wrL (wrL (List.replicate k 0) a v) b u).length = k := by rw [wrL_length, wrL_length, List.length_replicate]
  have hl1 : (List.replicate k (0 : Int)).length = k := by simp
  have hl2 : (wrL (List.replicate k 0) a v).length = k := by rw [wrL_length, List.length_replicate]
  obtain ⟨zs, hz⟩ : ∃ zs, wrL (wrL (List.replicate k 0) a v) b u = zs := ⟨_, rfl⟩
  rw [hz] at hzs hzl
  have HZS := Lib.hid hzs
  have HZL := Lib.hid hzl
  have HZ := Lib.hid hz
  have HL1 := Lib.hid hl1
  have HL2 := Lib.hid hl2
  clear hzs hzl hz hl1 hl2
  go_enter Try.func3, Try.ntmps3
  go_wp2
  go_quiet (fail)
  go_wp2_with fail
  have hA0 : Below w.heap.size w (((w.alloc (.cells #[.int .i64 a, .int .i64 b] 23)).alloc (.cells #[.int .u64 v, .int .u64 u] 25)).drewN nq) :=
    below_drewN (((Below.refl _ _).alloc (Nat.le_refl _) _).alloc (by simp) _) _
  have hW0 := hA0.alloc hA0.size (.cells #[.int .i64 (k : Int)] 3)
  have hkc : ((((w.alloc (.cells #[.int .i64 a, .int .i64 b] 23)).alloc (.cells #[.int .u64 v, .int .u64 u] 25)).drewN nq).alloc (.cells #[.int .i64 (k : Int)] 3)).cell? ⟨w.heap.size + 1 + 1, 0, none⟩ = some (.int .i64 k) := by
    have hsz : (((w.alloc (.cells #[.int .i64 a, .int .i64 b] 23)).alloc (.cells #[.int .u64 v, .int .u64 u] 25)).drewN nq).heap.size = w.heap.size + 1 + 1 := by
      show ((w.alloc _).alloc _).heap.size = _
      simp
    rw [← hsz]
    exact heap_cell (heap_alloc_eq _ _) 0
  generalize ((((w.alloc (.cells #[.int .i64 a, .int .i64 b] 23)).alloc (.cells #[.int .u64 v, .int .u64 u] 25)).drewN nq).alloc (.cells #[.int .i64 (k : Int)] 3)) = W0 at *
  refine (wNew_any k _ (by omega)).mono ?_
  rintro e w1 ⟨rfl, hb1, hM1⟩
  have hkl : w.heap.size + 1 + 1 < W0.heap.size := cell_lt hkc
  clear hA0
  have hk1c := (hb1.cell hkl).trans hkc
  go_wp2_with fail
  refine (wWrite_any _ _ _ _ _ _ hM1).mono ?_
  rw [HL1.out]
  rintro e w2 ⟨rfl, hg2, hM2⟩
  have hk2c := ((gcell hg2).1 (w.heap.size + 1 + 1) 0 (cell_lt hk1c) (by omega)).trans hk1c
  go_wp2_with fail
  refine (wWrite_any _ _ _ _ _ _ hM2).mono ?_
  rw [HL2.out]
  rintro e w3 ⟨rfl, hg3, hM3⟩
  rw [HZ.out] at hM3
  have hk3c := ((gcell hg3).1 (w.heap.size + 1 + 1) 0 (cell_lt hk2c) (by omega)).trans hk2c
  clear hk1c hk2c hkc
  have hB3 : Below w.heap.size w w3 := below_grown (below_grown (hW0.trans (hb1.mono hW0.size)) hg2 (by have := hW0.size; have := hb1.size; omega) hW0.size) hg3 (by have := hW0.size; have := hb1.size; have := hg2.size; omega) hW0.size
  go_wp2_with (first | (go_at_call 8; refine (apart1_any _ _ _ _ hk3c).mono ?_; rintro e w4 ⟨rfl, rfl⟩))
  refine (wAll_any _ _ _ _ hM3).mono ?_
  rintro e w4 ⟨vv, rfl, hb4, ho4⟩
  obtain ⟨aa, cap, rfl, hrd, _⟩ := owns_reads ho4
  have hB4 : Below w.heap.size w w4 := hB3.trans (hb4.mono hB3.size)
  rw [HZL.out]
  clear ho4 hb4 hg3 hg2 hM1 hM2 hM3 hk3c hb1 hW0 h1 h2 h3 h4
  go_wp2
  go_loop [69] (fun i => ∃ j : Nat, j ≤ k ∧ i = .int .i64 j) (fun i => k - (intOf i).toNat)
  case atStart => exact ⟨0, Nat.zero_le _, rfl⟩
  case round =>
    obtain ⟨j, hj, rfl⟩ := hrel
    by_cases hlt : j < k
    · have hcell : ∃ b off, aa = some ⟨b, off, none⟩ ∧ w4.cell? ⟨b, off + j, none⟩ = some (.int .u64 (zs[j]?.getD 0)) := by
        rcases hrd with h | ⟨b, off, h, hc⟩
        · have := HZL.out; rw [h] at this; simp at this; omega
        · exact ⟨b, off, h, by have := hc j (by rw [HZL.out]; exact hlt); simpa using this⟩
      obtain ⟨gb, off, rfl, hcj⟩ := hcell
      have hz := HZS.out j hlt
      clear hrd
      rcases (show (j : Int) = b ∨ (¬ (j : Int) = b ∧ (j : Int) = a) ∨ (¬ (j : Int) = b ∧ ¬ (j : Int) = a) by omega) with e1 | ⟨e1, e2⟩ | ⟨e1, e2⟩
      · rw [if_pos e1] at hz
        rw [hz] at hcj
        subst e1
        clear hz
        by_cases e2 : (j : Int) = a
        · subst e2
          go_wp2
          go_round
          case rel => exact ⟨j + 1, by omega, by go_num⟩
          case measure => simp [intOf]; omega
        · go_wp2
          go_round
          case rel => exact ⟨j + 1, by omega, by go_num⟩
          case measure => simp [intOf]; omega
      · rw [if_neg e1, if_pos e2] at hz
        rw [hz] at hcj
        subst e2
        clear hz
        go_wp2
        go_round
        case rel => exact ⟨j + 1, by omega, by go_num⟩
        case measure => simp [intOf]; omega
      · rw [if_neg e1, if_neg e2] at hz
        rw [hz] at hcj
        clear hz
        go_wp2
        go_round
        case rel => exact ⟨j + 1, by omega, by go_num⟩
        case measure => simp [intOf]; omega
    · obtain rfl : j = k := by omega
      go_wp2_with (go_at_call 11; refine (wfixed_any _).mono ?_; rintro e w5 ⟨rfl, hb5⟩)
      go_ret
      exact ⟨rfl, hB4.trans (hb5.mono hB4.size)⟩
end Go.Proofs.Ytennhifmhlmjhaa
