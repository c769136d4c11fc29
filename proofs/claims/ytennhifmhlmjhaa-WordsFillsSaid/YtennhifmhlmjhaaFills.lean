/-
  The walk of WordsFills.
-/
import Derived.Test.YtennhifmhlmjhaaLaid1
import Derived.Test.YtennhifmhlmjhaaIter1
import Derived.Test.YtennhifmhlmjhaaApart
namespace Go.Proofs.Ytennhifmhlmjhaa
open Go Go.RowKit

theorem fillL_get (xs : List Int) (f k v : Int) (j : Nat) :
    (fillL xs f k v)[j]?.getD 0 = if hasB xs.length f k = true ∧ f ≤ j ∧ (j : Int) - f < k then v else xs[j]?.getD 0 := by
  unfold fillL
  by_cases h : hasB xs.length f k = true
  · rw [if_pos h]
    have q := h
    simp [hasB] at q
    obtain ⟨q1, q2, q3, q4⟩ := q
    obtain ⟨f, rfl⟩ := Int.eq_ofNat_of_zero_le q1
    obtain ⟨k, rfl⟩ := Int.eq_ofNat_of_zero_le q2
    rw [Int.toNat_natCast, Int.toNat_natCast]
    by_cases h1 : j < f
    · rw [List.getElem?_append_left (by simp; omega), List.getElem?_take, if_pos h1, if_neg (by omega)]
    · rw [List.getElem?_append_right (by simp; omega)]
      have e1 : (xs.take f).length = f := by simp; omega
      rw [e1]
      by_cases h2 : j < f + k
      · rw [List.getElem?_append_left (by rw [List.length_replicate]; omega), List.getElem?_replicate, if_pos (by omega), if_pos ⟨h, by omega, by omega⟩]
        rfl
      · rw [List.getElem?_append_right (by rw [List.length_replicate]; omega), List.getElem?_drop, List.length_replicate, show f + k + (j - f - k) = j by omega, if_neg (by omega)]
  · rw [if_neg h, if_neg (by simp [h])]

theorem WordsFills_any (a : Option Addr) (cap : Nat) (xs : List Int) (f k v : Int) (w : World) (hR : Reads .u64 w a xs) :
    Calls Try.prog 4 #[.slice a xs.length cap, .agg #[.int .i64 f, .int .i64 k], .int .u64 v] w fun e w' => e = .returned (.bool true) ∧ Below w.heap.size w w' := by
  by_cases hn : 300 < xs.length
  · go_enter Try.func4, Try.ntmps4
    go_wp2_with (go_at_call 11; refine (wfixed_any _).mono ?_; rintro e w5 ⟨rfl, hb5⟩)
    go_ret
    exact ⟨rfl, ((Below.refl _ _).alloc (Nat.le_refl _) _).trans (hb5.mono (by simp))⟩
  · have hW0 : Below w.heap.size w (w.alloc (.cells #[.int .i64 f, .int .i64 k] 37)) := (Below.refl _ _).alloc (Nat.le_refl _) _
    have hR0 := hR.below hW0
    have k0 : (w.alloc (.cells #[.int .i64 f, .int .i64 k] 37)).heap[w.heap.size]? = some (.cells #[.int .i64 f, .int .i64 k] 37 (0, 0)) := heap_alloc_eq _ _
    go_enter Try.func4, Try.ntmps4
    go_wp2_with fail
    generalize w.alloc (.cells #[.int .i64 f, .int .i64 k] 37) = W0 at *
    have hk0 := heap_lt k0
    have hab : ∀ b off, a = some ⟨b, off, none⟩ → 0 < xs.length → b ≠ W0.heap.size := by
      intro b off ha hpos e
      obtain ⟨b', off', e', hc'⟩ := hR0.at_ 0 hpos
      rw [ha] at e'
      cases e'
      have := cell_lt hc'
      simp at this
      omega
    refine (wNew_any xs.length _ (by omega)).mono ?_
    rintro e w1 ⟨rfl, hb1, hM1⟩
    have hR1 := hR0.below hb1
    have k1 := heap_below hb1 k0 hk0
    have hB1 := hW0.trans (hb1.mono hW0.size)
    go_wp2
    go_loopw [33] (fun i wr => ∃ j : Nat, j ≤ xs.length ∧ i = .int .i64 j ∧ MemAt wr (W0.heap.size + 1) W0.heap.size (laidL xs xs.length j) ∧ w1.grownBy wr (some W0.heap.size)) (fun i _ => xs.length - (intOf i).toNat)
    case atStart => exact ⟨0, Nat.zero_le _, rfl, by rw [laidL_zero]; exact hM1, grown_refl _ _⟩
    case round =>
      obtain ⟨j, hj, rfl, hM, hg⟩ := hrel
      by_cases hlt : j < xs.length
      · obtain ⟨b, off, rfl, hc⟩ := hR1.at_ j hlt
        have hne : b ≠ W0.heap.size := hab b off rfl (by omega)
        have hc2 := (World.cell?_of_block (a := ⟨b, off + j, none⟩) (hg.block b (cell_lt hc) (by simpa using hne))).trans hc
        obtain ⟨x, hx⟩ : ∃ x, xs[j]?.getD 0 = x := ⟨_, rfl⟩
        have hs := laidL_step xs xs.length j hlt (Nat.le_refl _)
        rw [hx] at hc2 hs
        have HS := Lib.hid hs
        clear hx hs hc hR hR0 hR1 hab
        go_wp2_with (go_at_call 9; refine (wWrite_any _ _ _ _ _ _ hM).mono ?_; rintro e w2 ⟨rfl, hg2, hM2⟩)
        go_roundw
        case rel => exact ⟨j + 1, by omega, by go_num, by rw [← HS.out]; exact hM2, grown_trans hg hg2⟩
        case measure => simp [intOf]; omega
      · obtain rfl : j = xs.length := by omega
        rw [laidL_all _ _ rfl] at hM
        have hBr := below_grown hB1 hg hB1.size hW0.size
        have kr := heap_grown hg k1 (by omega)
        have c0 := heap_cell kr 0
        have c1 := heap_cell kr 1
        simp at c0 c1
        have hRr : Reads .u64 wr a xs := by
          rcases hR with h | ⟨b, off, h, hc⟩
          · exact .inl h
          · refine .inr ⟨b, off, h, fun i hi => ?_⟩
            have hlb := cell_lt (hc i hi)
            exact (hBr.cell (p := ⟨b, off + i, none⟩) hlb).trans (hc i hi)
        have hx2 := heap_lt hM.1
        clear hR hR0 hR1 k0 k1 hM1 hb1 hB1 hg hW0
        go_wp2_with fail
        refine (wFill_any _ _ _ _ _ _ _ hM).mono ?_
        rintro e w3 ⟨rfl, hg3, hM3⟩
        have k3 := heap_grown hg3 kr (by omega)
        have hB3 := below_grown hBr hg3 hBr.size (by omega)
        have hR3 : Reads .u64 w3 a xs := by
          rcases hRr with h | ⟨b, off, h, hc⟩
          · exact .inl h
          · refine .inr ⟨b, off, h, fun i hi => ?_⟩
            have hbg : b ≠ W0.heap.size := hab b off h (by omega)
            exact (World.cell?_of_block (a := ⟨b, off + i, none⟩) (hg3.block b (cell_lt (hc i hi)) (by simpa using hbg))).trans (hc i hi)
        clear hRr kr c0 c1 hg3 hM
        go_wp2_with fail
        refine (wAll_any _ _ _ _ hM3).mono ?_
        rintro e w4 ⟨vv, rfl, hb4, ho4⟩
        obtain ⟨aa, cap2, rfl, hrd, _⟩ := owns_reads ho4
        have hB4 := hB3.trans (hb4.mono hB3.size)
        have k4 := heap_below hb4 k3 (heap_lt k3)
        have hR4 := hR3.below hb4
        have c0 := heap_cell k4 0
        have c1 := heap_cell k4 1
        simp at c0 c1
        have HL := Lib.hid (fillL_length xs f k v)
        rw [HL.out]
        clear ho4 hb4 hM3 k3 hR3 k4
        go_wp2
        go_loop [50] (fun i => ∃ j : Nat, j ≤ xs.length ∧ i = .int .i64 j) (fun i => xs.length - (intOf i).toNat)
        case atStart => exact ⟨0, Nat.zero_le _, rfl⟩
        case round =>
          obtain ⟨j, hj, rfl⟩ := hrel
          by_cases hlt : j < xs.length
          · obtain ⟨b, off, rfl, hc⟩ := hR4.at_ j hlt
            obtain ⟨b2, off2, rfl, hc2⟩ := hrd.at_ j (by rw [HL.out]; exact hlt)
            rw [fillL_get] at hc2
            obtain ⟨x, hx⟩ : ∃ x, xs[j]?.getD 0 = x := ⟨_, rfl⟩
            rw [hx] at hc hc2
            clear hx hR4 hrd hab
            rcases (show (¬ hasB xs.length f k = true) ∨ (hasB xs.length f k = true ∧ (j : Int) < f) ∨ (hasB xs.length f k = true ∧ f ≤ (j : Int) ∧ ¬ (j : Int) - f < k) ∨ (hasB xs.length f k = true ∧ f ≤ (j : Int) ∧ (j : Int) - f < k) from by
              by_cases q : hasB xs.length f k = true
              · simp only [q, not_true_eq_false, true_and, false_or]; omega
              · exact .inl q) with h1 | ⟨h1, h2⟩ | ⟨h1, h2, h3⟩ | ⟨h1, h2, h3⟩
            · have hE : (fillE xs.length f k == 0) = false := by simp [fillE, h1]
              rw [if_neg (by simp [h1])] at hc2
              clear h1
              go_wp2
              go_round
              case rel => exact ⟨j + 1, by omega, by go_num⟩
              case measure => simp [intOf]; omega
            · have hE : (fillE xs.length f k == 0) = true := by simp [fillE, h1]
              rw [if_neg (by omega)] at hc2
              clear h1
              go_wp2
              go_round
              case rel => exact ⟨j + 1, by omega, by go_num⟩
              case measure => simp [intOf]; omega
            · have hE : (fillE xs.length f k == 0) = true := by simp [fillE, h1]
              have hf : 0 ≤ f := by simp [hasB] at h1; omega
              rw [if_neg (by omega)] at hc2
              clear h1
              go_wp2
              go_round
              case rel => exact ⟨j + 1, by omega, by go_num⟩
              case measure => simp [intOf]; omega
            · have hE : (fillE xs.length f k == 0) = true := by simp [fillE, h1]
              have hf : 0 ≤ f := by simp [hasB] at h1; omega
              rw [if_pos ⟨h1, h2, h3⟩] at hc2
              clear h1
              go_wp2
              go_round
              case rel => exact ⟨j + 1, by omega, by go_num⟩
              case measure => simp [intOf]; omega
          · obtain rfl : j = xs.length := by omega
            have hE : fillE xs.length f k = 0 ∨ fillE xs.length f k = 8 := by unfold fillE; split <;> simp
            clear hR4 hrd hab
            rcases hE with hE | hE
            · have hE1 : (fillE xs.length f k == 0) = true := by simp [hE]
              clear hE
              go_wp2_with (go_at_call 11; refine (wfixed_any _).mono ?_; rintro e w5 ⟨rfl, hb5⟩)
              go_ret
              exact ⟨rfl, hB4.trans (hb5.mono hB4.size)⟩
            · have hE1 : (fillE xs.length f k == 0) = false := by simp [hE]
              have hE2 : (fillE xs.length f k == 8) = true := by simp [hE]
              clear hE
              go_wp2_with (go_at_call 11; refine (wfixed_any _).mono ?_; rintro e w5 ⟨rfl, hb5⟩)
              go_ret
              exact ⟨rfl, hB4.trans (hb5.mono hB4.size)⟩
end Go.Proofs.Ytennhifmhlmjhaa
