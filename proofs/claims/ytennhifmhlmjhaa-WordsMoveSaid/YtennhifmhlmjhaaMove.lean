/-
  The walk of WordsMove.
-/
import Derived.Test.YtennhifmhlmjhaaLaid1
import Derived.Test.YtennhifmhlmjhaaIter1
import Derived.Test.YtennhifmhlmjhaaApart
namespace Go.Proofs.Ytennhifmhlmjhaa
open Go Go.RowKit

theorem moveL_get (xs : List Int) (f k to j : Nat) (hf : f + k ≤ xs.length) (ht : to + k ≤ xs.length) :
    (moveL xs f k to)[j]? = if to ≤ j ∧ j < to + k then xs[f + (j - to)]? else xs[j]? := by
  unfold moveL
  rw [if_pos (by simp [moveB, hasB]; omega), Int.toNat_natCast, Int.toNat_natCast, Int.toNat_natCast]
  by_cases h1 : j < to
  · rw [List.getElem?_append_left (by simp; omega), List.getElem?_take, if_pos h1, if_neg (by omega)]
  · rw [List.getElem?_append_right (by simp; omega)]
    have e1 : (xs.take to).length = to := by simp; omega
    have e2 : ((xs.drop f).take k).length = k := by simp; omega
    rw [e1]
    by_cases h2 : j < to + k
    · rw [List.getElem?_append_left (by omega), List.getElem?_take, if_pos (by omega), List.getElem?_drop, if_pos (by omega)]
    · rw [List.getElem?_append_right (by omega), e2, List.getElem?_drop, if_neg (by omega), show to + k + (j - to - k) = j by omega]
theorem fillL_get' (xs : List Int) (f k : Nat) (v : Int) (j : Nat) (hf : f + k ≤ xs.length) :
    (fillL xs f k v)[j]? = if f ≤ j ∧ j < f + k then some v else xs[j]? := by
  unfold fillL
  rw [if_pos (by simp [hasB]; omega), Int.toNat_natCast, Int.toNat_natCast]
  by_cases h1 : j < f
  · rw [List.getElem?_append_left (by simp; omega), List.getElem?_take, if_pos h1, if_neg (by omega)]
  · rw [List.getElem?_append_right (by simp; omega)]
    have e1 : (xs.take f).length = f := by simp; omega
    rw [e1]
    by_cases h2 : j < f + k
    · rw [List.getElem?_append_left (by rw [List.length_replicate]; omega), List.getElem?_replicate, if_pos (by omega), if_pos (by omega)]
    · rw [List.getElem?_append_right (by rw [List.length_replicate]; omega), List.getElem?_drop, List.length_replicate, show f + k + (j - f - k) = j by omega, if_neg (by omega)]

/-- There and back: the words are as they were. -/
theorem there_and_back (xs : List Int) (f k : Nat) (v : Int) (h : f + k ≤ xs.length) :
    (moveL (fillL (moveL (laidL xs (2 * xs.length) xs.length) f k xs.length) f k v) xs.length k f).take xs.length = xs := by
  have l0 : (laidL xs (2 * xs.length) xs.length).length = 2 * xs.length := laidL_length _ _ _ (Nat.le_refl _) (by omega)
  have l1 := moveL_length (laidL xs (2 * xs.length) xs.length) f k xs.length
  have l2 := fillL_length (moveL (laidL xs (2 * xs.length) xs.length) f k xs.length) f k v
  apply List.ext_getElem?
  intro j
  rw [List.getElem?_take]
  by_cases hj : j < xs.length
  · rw [if_pos hj, moveL_get _ _ _ _ _ (by omega) (by omega)]
    have e0 : ∀ q, q < xs.length → (laidL xs (2 * xs.length) xs.length)[q]? = xs[q]? := by
      intro q hq
      unfold laidL
      rw [List.getElem?_append_left (by simp; omega), List.getElem?_take, if_pos hq]
    by_cases h1 : f ≤ j ∧ j < f + k
    · rw [if_pos h1, fillL_get' _ _ _ _ _ (by omega), if_neg (by omega), moveL_get _ _ _ _ _ (by omega) (by omega), if_pos (by omega)]
      rw [e0 _ (by omega)]
      congr 1
      omega
    · rw [if_neg h1, fillL_get' _ _ _ _ _ (by omega), if_neg h1, moveL_get _ _ _ _ _ (by omega) (by omega), if_neg (by omega), e0 _ hj]
  · rw [if_neg hj, List.getElem?_eq_none (by omega)]

theorem back_int (xs : List Int) (f k v : Int) (hf : 0 ≤ f) (hk : 0 ≤ k) (h : f + k ≤ xs.length) :
    moveE (laidL xs (2 * xs.length) xs.length).length f k xs.length = 0 ∧ fillE (moveL (laidL xs (2 * xs.length) xs.length) f k xs.length).length f k = 0 ∧
    moveE (fillL (moveL (laidL xs (2 * xs.length) xs.length) f k xs.length) f k v).length xs.length k f = 0 ∧
    (moveL (fillL (moveL (laidL xs (2 * xs.length) xs.length) f k xs.length) f k v) xs.length k f).take xs.length = xs ∧
    (moveL (fillL (moveL (laidL xs (2 * xs.length) xs.length) f k xs.length) f k v) xs.length k f).length = 2 * xs.length := by
  obtain ⟨f, rfl⟩ := Int.eq_ofNat_of_zero_le hf
  obtain ⟨k, rfl⟩ := Int.eq_ofNat_of_zero_le hk
  have l0 : (laidL xs (2 * xs.length) xs.length).length = 2 * xs.length := laidL_length _ _ _ (Nat.le_refl _) (by omega)
  have l1 := moveL_length (laidL xs (2 * xs.length) xs.length) f k xs.length
  have l2 := fillL_length (moveL (laidL xs (2 * xs.length) xs.length) f k xs.length) f k v
  have l3 := moveL_length (fillL (moveL (laidL xs (2 * xs.length) xs.length) f k xs.length) f k v) xs.length k f
  refine ⟨?_, ?_, ?_, there_and_back xs f k v (by omega), by omega⟩
  · rw [l0]; simp [moveE, moveB, hasB]; omega
  · rw [l1, l0]; simp [fillE, hasB]; omega
  · rw [l2, l1, l0]; simp [moveE, moveB, hasB]; omega

set_option maxRecDepth 100000 in
set_option maxHeartbeats 4000000 in
theorem WordsMove_any (a : Option Addr) (cap : Nat) (xs : List Int) (p q : Int) (w : World) (hR : Reads .u64 w a xs) (hp0 : 0 ≤ p) (hp1 : p ≤ 255) (hq0 : 0 ≤ q) (hq1 : q ≤ 255) :
    Calls Try.prog 5 #[.slice a xs.length cap, .int .u8 p, .int .u8 q] w fun e w' => e = .returned (.bool true) ∧ Below w.heap.size w w' := by
  by_cases hn : 150 < xs.length
  · go_enter Try.func5, Try.ntmps5
    go_wp2_with (go_at_call 11; refine (wfixed_any _).mono ?_; rintro e w5 ⟨rfl, hb5⟩)
    go_ret
    exact ⟨rfl, hb5⟩
  · have hab : ∀ b off, a = some ⟨b, off, none⟩ → 0 < xs.length → b ≠ w.heap.size := by
      intro b off ha hpos e
      obtain ⟨b', off', e', hc'⟩ := hR.at_ 0 hpos
      rw [ha] at e'
      cases e'
      have := cell_lt hc'
      simp at this
      omega
    have e2 := Lib.hid (show (2 : Int) * (xs.length : Int) = ((2 * xs.length : Nat) : Int) by omega)
    go_enter Try.func5, Try.ntmps5
    go_wp2_with fail
    rw [e2.out]
    refine (wNew_any (2 * xs.length) _ (by omega)).mono ?_
    rintro e w1 ⟨rfl, hb1, hM1⟩
    have hR1 := hR.below hb1
    clear e2
    go_wp2
    go_loopw [33] (fun i wr => ∃ j : Nat, j ≤ xs.length ∧ i = .int .i64 j ∧ MemAt wr (w.heap.size + 1) w.heap.size (laidL xs (2 * xs.length) j) ∧ w1.grownBy wr (some w.heap.size)) (fun i _ => xs.length - (intOf i).toNat)
    case atStart => exact ⟨0, Nat.zero_le _, rfl, by rw [laidL_zero]; exact hM1, grown_refl _ _⟩
    case round =>
      obtain ⟨j, hj, rfl, hM, hg⟩ := hrel
      by_cases hlt : j < xs.length
      · obtain ⟨b, off, rfl, hc⟩ := hR1.at_ j hlt
        have hne : b ≠ w.heap.size := hab b off rfl (by omega)
        have hc2 := (World.cell?_of_block (a := ⟨b, off + j, none⟩) (hg.block b (cell_lt hc) (by simpa using hne))).trans hc
        obtain ⟨x, hx⟩ : ∃ x, xs[j]?.getD 0 = x := ⟨_, rfl⟩
        have hs := laidL_step xs (2 * xs.length) j hlt (by omega)
        rw [hx] at hc2 hs
        have HS := Lib.hid hs
        clear hx hs hc hR hR1 hab
        go_wp2_with (go_at_call 9; refine (wWrite_any _ _ _ _ _ _ hM).mono ?_; rintro e w2 ⟨rfl, hg2, hM2⟩)
        go_roundw
        case rel => exact ⟨j + 1, by omega, by go_num, by rw [← HS.out]; exact hM2, grown_trans hg hg2⟩
        case measure => simp [intOf]; omega
      · obtain rfl : j = xs.length := by omega
        have hBr : Below w.heap.size w wr := below_grown hb1 hg hb1.size (Nat.le_refl _)
        clear hR1 hM1 hg hb1
        rcases (show (p ≤ xs.length ∧ q ≤ xs.length - p) ∨ (p ≤ xs.length ∧ xs.length - p < q) ∨ (xs.length < p ∧ q = 0) ∨ (xs.length < p ∧ 0 < q) by omega) with ⟨g1, g2⟩ | ⟨g1, g2⟩ | ⟨g1, rfl⟩ | ⟨g1, g2⟩
        · have hL0 : (laidL xs (2 * xs.length) xs.length).length = 2 * xs.length := laidL_length _ _ _ (Nat.le_refl _) (by omega)
          obtain ⟨t1, t2, t3, t4, t5⟩ := back_int xs p q 9223372036854775808 (by omega) (by omega) (by omega)
          obtain ⟨m0, h0⟩ : ∃ m, laidL xs (2 * xs.length) xs.length = m := ⟨_, rfl⟩
          rw [h0] at t1 t2 t3 t4 t5 hM
          obtain ⟨m1, h1⟩ : ∃ m, moveL m0 p q xs.length = m := ⟨_, rfl⟩
          rw [h1] at t2 t3 t4 t5
          obtain ⟨m2, h2⟩ : ∃ m, fillL m1 p q 9223372036854775808 = m := ⟨_, rfl⟩
          rw [h2] at t3 t4 t5
          obtain ⟨m3, h3⟩ : ∃ m, moveL m2 xs.length q p = m := ⟨_, rfl⟩
          rw [h3] at t4 t5
          have T1 := Lib.hid t1
          have T2 := Lib.hid t2
          have T3 := Lib.hid t3
          have T4 := Lib.hid t4
          have T5 := Lib.hid t5
          have H1 := Lib.hid h1
          have H2 := Lib.hid h2
          have H3 := Lib.hid h3
          clear t1 t2 t3 t4 t5 h0 h1 h2 h3 hL0
          go_wp2_with fail
          refine (wMove_any _ _ _ p q _ _ hM).mono ?_
          rw [T1.out, H1.out]
          rintro e w2 ⟨rfl, hg2, hM2⟩
          have hB2 := below_grown hBr hg2 hBr.size (Nat.le_refl _)
          go_wp2_with fail
          refine (wFill_any _ _ _ p q _ _ hM2).mono ?_
          rw [T2.out, H2.out]
          rintro e w3 ⟨rfl, hg3, hM3⟩
          have hB3 := below_grown hB2 hg3 hB2.size (Nat.le_refl _)
          go_wp2_with fail
          refine (wMove_any _ _ _ _ q p _ hM3).mono ?_
          rw [T3.out, H3.out]
          rintro e w4 ⟨rfl, hg4, hM4⟩
          have hB4 := below_grown hB3 hg4 hB3.size (Nat.le_refl _)
          clear hg2 hg3 hg4 hM hM2 hM3 hB2 hB3 hBr
          go_wp2_with fail
          refine (wAll_any _ _ _ _ hM4).mono ?_
          rintro e w5 ⟨vv, rfl, hb5, ho5⟩
          obtain ⟨aa, cap2, rfl, hrd, _, hcap⟩ := owns_reads ho5
          have hB5 := hB4.trans (hb5.mono hB4.size)
          rw [T5.out] at hcap ⊢
          have hc2 : (xs.length : Int) ≤ (cap2 : Int) := by omega
          have hc0 : (0 : Int) ≤ (xs.length : Int) := by omega
          have hrd2 := hrd.take xs.length
          rw [T4.out] at hrd2
          have hRw := hR.below hB5
          clear ho5 hb5 hrd hcap hM4 hB4 hR
          go_wp2_with (first | (go_at_call 11; refine (wfixed_any _).mono ?_; rintro e w6 ⟨rfl, hb6⟩) | (go_at_call 14; refine (Same_any _ _ _ _ xs xs _ (hrd2.below hb6) (hRw.below hb6) (by omega)).mono ?_; rintro e w7 ⟨rfl, hb7⟩))
          go_ret
          exact ⟨ret_bool (by simp), (hB5.trans (hb6.mono hB5.size)).trans (hb7.mono (Nat.le_trans hB5.size hb6.size))⟩
        · have hL0 : (laidL xs (2 * xs.length) xs.length).length = 2 * xs.length := laidL_length _ _ _ (Nat.le_refl _) (by omega)
          obtain ⟨t1, t2, t3, t4, t5⟩ := back_int xs p ((xs.length : Int) - p) 9223372036854775808 (by omega) (by omega) (by omega)
          obtain ⟨m0, h0⟩ : ∃ m, laidL xs (2 * xs.length) xs.length = m := ⟨_, rfl⟩
          rw [h0] at t1 t2 t3 t4 t5 hM
          obtain ⟨m1, h1⟩ : ∃ m, moveL m0 p ((xs.length : Int) - p) xs.length = m := ⟨_, rfl⟩
          rw [h1] at t2 t3 t4 t5
          obtain ⟨m2, h2⟩ : ∃ m, fillL m1 p ((xs.length : Int) - p) 9223372036854775808 = m := ⟨_, rfl⟩
          rw [h2] at t3 t4 t5
          obtain ⟨m3, h3⟩ : ∃ m, moveL m2 xs.length ((xs.length : Int) - p) p = m := ⟨_, rfl⟩
          rw [h3] at t4 t5
          have T1 := Lib.hid t1
          have T2 := Lib.hid t2
          have T3 := Lib.hid t3
          have T4 := Lib.hid t4
          have T5 := Lib.hid t5
          have H1 := Lib.hid h1
          have H2 := Lib.hid h2
          have H3 := Lib.hid h3
          clear t1 t2 t3 t4 t5 h0 h1 h2 h3 hL0
          go_wp2_with fail
          refine (wMove_any _ _ _ p ((xs.length : Int) - p) _ _ hM).mono ?_
          rw [T1.out, H1.out]
          rintro e w2 ⟨rfl, hg2, hM2⟩
          have hB2 := below_grown hBr hg2 hBr.size (Nat.le_refl _)
          go_wp2_with fail
          refine (wFill_any _ _ _ p ((xs.length : Int) - p) _ _ hM2).mono ?_
          rw [T2.out, H2.out]
          rintro e w3 ⟨rfl, hg3, hM3⟩
          have hB3 := below_grown hB2 hg3 hB2.size (Nat.le_refl _)
          go_wp2_with fail
          refine (wMove_any _ _ _ _ ((xs.length : Int) - p) p _ hM3).mono ?_
          rw [T3.out, H3.out]
          rintro e w4 ⟨rfl, hg4, hM4⟩
          have hB4 := below_grown hB3 hg4 hB3.size (Nat.le_refl _)
          clear hg2 hg3 hg4 hM hM2 hM3 hB2 hB3 hBr
          go_wp2_with fail
          refine (wAll_any _ _ _ _ hM4).mono ?_
          rintro e w5 ⟨vv, rfl, hb5, ho5⟩
          obtain ⟨aa, cap2, rfl, hrd, _, hcap⟩ := owns_reads ho5
          have hB5 := hB4.trans (hb5.mono hB4.size)
          rw [T5.out] at hcap ⊢
          have hc2 : (xs.length : Int) ≤ (cap2 : Int) := by omega
          have hc0 : (0 : Int) ≤ (xs.length : Int) := by omega
          have hrd2 := hrd.take xs.length
          rw [T4.out] at hrd2
          have hRw := hR.below hB5
          clear ho5 hb5 hrd hcap hM4 hB4 hR
          go_wp2_with (first | (go_at_call 11; refine (wfixed_any _).mono ?_; rintro e w6 ⟨rfl, hb6⟩) | (go_at_call 14; refine (Same_any _ _ _ _ xs xs _ (hrd2.below hb6) (hRw.below hb6) (by omega)).mono ?_; rintro e w7 ⟨rfl, hb7⟩))
          go_ret
          exact ⟨ret_bool (by simp), (hB5.trans (hb6.mono hB5.size)).trans (hb7.mono (Nat.le_trans hB5.size hb6.size))⟩
        · have hL0 : (laidL xs (2 * xs.length) xs.length).length = 2 * xs.length := laidL_length _ _ _ (Nat.le_refl _) (by omega)
          obtain ⟨t1, t2, t3, t4, t5⟩ := back_int xs (xs.length : Int) 0 9223372036854775808 (by omega) (by omega) (by omega)
          obtain ⟨m0, h0⟩ : ∃ m, laidL xs (2 * xs.length) xs.length = m := ⟨_, rfl⟩
          rw [h0] at t1 t2 t3 t4 t5 hM
          obtain ⟨m1, h1⟩ : ∃ m, moveL m0 (xs.length : Int) 0 xs.length = m := ⟨_, rfl⟩
          rw [h1] at t2 t3 t4 t5
          obtain ⟨m2, h2⟩ : ∃ m, fillL m1 (xs.length : Int) 0 9223372036854775808 = m := ⟨_, rfl⟩
          rw [h2] at t3 t4 t5
          obtain ⟨m3, h3⟩ : ∃ m, moveL m2 xs.length 0 (xs.length : Int) = m := ⟨_, rfl⟩
          rw [h3] at t4 t5
          have T1 := Lib.hid t1
          have T2 := Lib.hid t2
          have T3 := Lib.hid t3
          have T4 := Lib.hid t4
          have T5 := Lib.hid t5
          have H1 := Lib.hid h1
          have H2 := Lib.hid h2
          have H3 := Lib.hid h3
          clear t1 t2 t3 t4 t5 h0 h1 h2 h3 hL0
          go_wp2_with fail
          refine (wMove_any _ _ _ (xs.length : Int) 0 _ _ hM).mono ?_
          rw [T1.out, H1.out]
          rintro e w2 ⟨rfl, hg2, hM2⟩
          have hB2 := below_grown hBr hg2 hBr.size (Nat.le_refl _)
          go_wp2_with fail
          refine (wFill_any _ _ _ (xs.length : Int) 0 _ _ hM2).mono ?_
          rw [T2.out, H2.out]
          rintro e w3 ⟨rfl, hg3, hM3⟩
          have hB3 := below_grown hB2 hg3 hB2.size (Nat.le_refl _)
          go_wp2_with fail
          refine (wMove_any _ _ _ _ 0 (xs.length : Int) _ hM3).mono ?_
          rw [T3.out, H3.out]
          rintro e w4 ⟨rfl, hg4, hM4⟩
          have hB4 := below_grown hB3 hg4 hB3.size (Nat.le_refl _)
          clear hg2 hg3 hg4 hM hM2 hM3 hB2 hB3 hBr
          go_wp2_with fail
          refine (wAll_any _ _ _ _ hM4).mono ?_
          rintro e w5 ⟨vv, rfl, hb5, ho5⟩
          obtain ⟨aa, cap2, rfl, hrd, _, hcap⟩ := owns_reads ho5
          have hB5 := hB4.trans (hb5.mono hB4.size)
          rw [T5.out] at hcap ⊢
          have hc2 : (xs.length : Int) ≤ (cap2 : Int) := by omega
          have hc0 : (0 : Int) ≤ (xs.length : Int) := by omega
          have hrd2 := hrd.take xs.length
          rw [T4.out] at hrd2
          have hRw := hR.below hB5
          clear ho5 hb5 hrd hcap hM4 hB4 hR
          go_wp2_with (first | (go_at_call 11; refine (wfixed_any _).mono ?_; rintro e w6 ⟨rfl, hb6⟩) | (go_at_call 14; refine (Same_any _ _ _ _ xs xs _ (hrd2.below hb6) (hRw.below hb6) (by omega)).mono ?_; rintro e w7 ⟨rfl, hb7⟩))
          go_ret
          exact ⟨ret_bool (by simp), (hB5.trans (hb6.mono hB5.size)).trans (hb7.mono (Nat.le_trans hB5.size hb6.size))⟩
        · have hL0 : (laidL xs (2 * xs.length) xs.length).length = 2 * xs.length := laidL_length _ _ _ (Nat.le_refl _) (by omega)
          obtain ⟨t1, t2, t3, t4, t5⟩ := back_int xs (xs.length : Int) 0 9223372036854775808 (by omega) (by omega) (by omega)
          obtain ⟨m0, h0⟩ : ∃ m, laidL xs (2 * xs.length) xs.length = m := ⟨_, rfl⟩
          rw [h0] at t1 t2 t3 t4 t5 hM
          obtain ⟨m1, h1⟩ : ∃ m, moveL m0 (xs.length : Int) 0 xs.length = m := ⟨_, rfl⟩
          rw [h1] at t2 t3 t4 t5
          obtain ⟨m2, h2⟩ : ∃ m, fillL m1 (xs.length : Int) 0 9223372036854775808 = m := ⟨_, rfl⟩
          rw [h2] at t3 t4 t5
          obtain ⟨m3, h3⟩ : ∃ m, moveL m2 xs.length 0 (xs.length : Int) = m := ⟨_, rfl⟩
          rw [h3] at t4 t5
          have T1 := Lib.hid t1
          have T2 := Lib.hid t2
          have T3 := Lib.hid t3
          have T4 := Lib.hid t4
          have T5 := Lib.hid t5
          have H1 := Lib.hid h1
          have H2 := Lib.hid h2
          have H3 := Lib.hid h3
          clear t1 t2 t3 t4 t5 h0 h1 h2 h3 hL0
          go_wp2_with fail
          refine (wMove_any _ _ _ (xs.length : Int) 0 _ _ hM).mono ?_
          rw [T1.out, H1.out]
          rintro e w2 ⟨rfl, hg2, hM2⟩
          have hB2 := below_grown hBr hg2 hBr.size (Nat.le_refl _)
          go_wp2_with fail
          refine (wFill_any _ _ _ (xs.length : Int) 0 _ _ hM2).mono ?_
          rw [T2.out, H2.out]
          rintro e w3 ⟨rfl, hg3, hM3⟩
          have hB3 := below_grown hB2 hg3 hB2.size (Nat.le_refl _)
          go_wp2_with fail
          refine (wMove_any _ _ _ _ 0 (xs.length : Int) _ hM3).mono ?_
          rw [T3.out, H3.out]
          rintro e w4 ⟨rfl, hg4, hM4⟩
          have hB4 := below_grown hB3 hg4 hB3.size (Nat.le_refl _)
          clear hg2 hg3 hg4 hM hM2 hM3 hB2 hB3 hBr
          go_wp2_with fail
          refine (wAll_any _ _ _ _ hM4).mono ?_
          rintro e w5 ⟨vv, rfl, hb5, ho5⟩
          obtain ⟨aa, cap2, rfl, hrd, _, hcap⟩ := owns_reads ho5
          have hB5 := hB4.trans (hb5.mono hB4.size)
          rw [T5.out] at hcap ⊢
          have hc2 : (xs.length : Int) ≤ (cap2 : Int) := by omega
          have hc0 : (0 : Int) ≤ (xs.length : Int) := by omega
          have hrd2 := hrd.take xs.length
          rw [T4.out] at hrd2
          have hRw := hR.below hB5
          clear ho5 hb5 hrd hcap hM4 hB4 hR
          go_wp2_with (first | (go_at_call 11; refine (wfixed_any _).mono ?_; rintro e w6 ⟨rfl, hb6⟩) | (go_at_call 14; refine (Same_any _ _ _ _ xs xs _ (hrd2.below hb6) (hRw.below hb6) (by omega)).mono ?_; rintro e w7 ⟨rfl, hb7⟩))
          go_ret
          exact ⟨ret_bool (by simp), (hB5.trans (hb6.mono hB5.size)).trans (hb7.mono (Nat.le_trans hB5.size hb6.size))⟩
end Go.Proofs.Ytennhifmhlmjhaa
