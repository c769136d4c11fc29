/-
  What a memory holds while words are laid into it one by one.
-/
import Derived.Test.YtojcdljpgginjaaDoorMem1
namespace Go.Proofs.YtojcdljpgginjaaDoor
open Go Go.RowKit

/-- The first j words of xs, zeros behind them. -/
def laidL (xs : List Int) (n j : Nat) : List Int := xs.take j ++ List.replicate (n - j) 0
theorem laidL_length (xs : List Int) (n j : Nat) (h : j ≤ xs.length) (hn : j ≤ n) : (laidL xs n j).length = n := by simp [laidL]; omega
theorem laidL_zero (xs : List Int) (n : Nat) : laidL xs n 0 = List.replicate n 0 := by simp [laidL]
theorem laidL_all (xs : List Int) (n : Nat) (h : xs.length = n) : laidL xs n xs.length = xs := by subst h; simp [laidL]
theorem laidL_step (xs : List Int) (n j : Nat) (h : j < xs.length) (hn : xs.length ≤ n) : wrL (laidL xs n j) j (xs[j]?.getD 0) = laidL xs n (j + 1) := by
  have hl := laidL_length xs n j (by omega) (by omega)
  unfold wrL
  rw [if_pos (by simp [inB, hl]; omega), Int.toNat_natCast]
  apply List.ext_getElem?
  intro q
  unfold laidL at *
  rw [List.getElem?_set]
  by_cases e : j = q
  · subst e
    rw [if_pos rfl, if_pos (by omega), List.getElem?_append_left (by simp; omega), List.getElem?_take, if_pos (by omega), List.getElem?_eq_getElem h]
    rfl
  · rw [if_neg e]
    by_cases h1 : q < j
    · rw [List.getElem?_append_left (by simp; omega), List.getElem?_append_left (by simp; omega), List.getElem?_take, List.getElem?_take, if_pos h1, if_pos (by omega)]
    · rw [List.getElem?_append_right (by simp; omega), List.getElem?_append_right (by simp; omega)]
      have e1 : (xs.take j).length = j := by simp; omega
      have e2 : (xs.take (j + 1)).length = j + 1 := by simp; omega
      rw [e1, e2, List.getElem?_replicate, List.getElem?_replicate]
      by_cases h2 : q < n
      · rw [if_pos (by omega), if_pos (by omega)]
      · rw [if_neg (by omega), if_neg (by omega)]

theorem MemAt.reads {w : World} {b g : Nat} {xs : List Int} (h : MemAt w b g xs) : Reads .u64 w (some ⟨g, 0, none⟩) xs :=
  .inr ⟨g, 0, rfl, fun i hi => by rw [Nat.zero_add]; exact h.word i hi⟩
theorem wAll_any (b g : Nat) (xs : List Int) (w : World) (h : MemAt w b g xs) :
    Calls Tryd.prog 11 #[.pointer (some ⟨b, 0, none⟩)] w (RetOwn .u64 44 xs w) := by
  have hc := h.cell
  have hl := h.2.2
  go_enter Tryd.func11, Tryd.ntmps11
  go_wp2_with (go_at_call 29; refine (Clone_u64_some _ _ _ _ h.reads (by omega)).mono ?_; rintro e w' ⟨v, rfl, hb, ho⟩)
  go_ret
  exact ⟨_, rfl, hb, ho⟩

/-- A memory of these words. -/
theorem laid_any (a : Option Addr) (xs : List Int) (cap : Nat) (w : World) (hR : Reads .u64 w a xs) (hn : xs.length ≤ 300) :
    Calls Tryd.prog 7 #[.slice a xs.length cap] w fun e w' => e = .returned (.pointer (some ⟨w.heap.size + 1, 0, none⟩)) ∧ Below w.heap.size w w' ∧ MemAt w' (w.heap.size + 1) w.heap.size xs := by
  go_enter Tryd.func7, Tryd.ntmps7
  go_wp2_with fail
  refine (wNew_any xs.length _ (by omega)).mono ?_
  rintro e w1 ⟨rfl, hb1, hM1⟩
  have hab : ∀ b off, a = some ⟨b, off, none⟩ → 0 < xs.length → b < w.heap.size := by
    intro b off ha hpos
    obtain ⟨b', off', e', hc'⟩ := hR.at_ 0 hpos
    rw [ha] at e'
    cases e'
    exact cell_lt hc'
  have hR1 := hR.below hb1
  go_wp2
  go_loopw [21] (fun i wr => ∃ j : Nat, j ≤ xs.length ∧ i = .int .i64 j ∧ MemAt wr (w.heap.size + 1) w.heap.size (laidL xs xs.length j) ∧ w1.grownBy wr (some w.heap.size)) (fun i _ => xs.length - (intOf i).toNat)
  case atStart => exact ⟨0, Nat.zero_le _, rfl, by rw [laidL_zero]; exact hM1, grown_refl _ _⟩
  case round =>
    obtain ⟨j, hj, rfl, hM, hg⟩ := hrel
    by_cases hlt : j < xs.length
    · obtain ⟨b, off, rfl, hc⟩ := hR1.at_ j hlt
      have hne : b ≠ w.heap.size := by have := hab b off rfl (by omega); omega
      have hc2 := (World.cell?_of_block (a := ⟨b, off + j, none⟩) (hg.block b (cell_lt hc) (by simpa using hne))).trans hc
      obtain ⟨x, hx⟩ : ∃ x, xs[j]?.getD 0 = x := ⟨_, rfl⟩
      have hs := laidL_step xs xs.length j hlt (Nat.le_refl _)
      rw [hx] at hc2 hs
      have HS := Lib.hid hs
      clear hx hs hc hR hR1 hab
      go_wp2_with fail
      refine (wWrite_any _ _ _ _ _ _ hM).mono ?_
      rintro e w2 ⟨rfl, hg2, hM2⟩
      go_wp2
      go_roundw
      case rel => exact ⟨j + 1, by omega, by go_num, by rw [← HS.out]; exact hM2, grown_trans hg hg2⟩
      case measure => simp [intOf]; omega
    · obtain rfl : j = xs.length := by omega
      rw [laidL_all _ _ rfl] at hM
      have hBr := below_grown hb1 hg hb1.size (Nat.le_refl _)
      clear hR hR1 hab hg
      go_wp2
      go_ret
      exact ⟨rfl, hBr, hM⟩
end Go.Proofs.YtojcdljpgginjaaDoor
