/-
  kraalref01.Same: are two rows of words the same?
-/
import Derived.Test.YtojcdljpgginjaaDoorOwn
import Derived.Deep.QuietTactic
import Derived.BigQuiet
namespace Go.Proofs.YtojcdljpgginjaaDoor
open Go Go.RowKit

theorem Same_any (a1 a2 : Option Addr) (c1 c2 : Nat) (xs ys : List Int) (w : World) (h1 : Reads .u64 w a1 xs) (h2 : Reads .u64 w a2 ys) (hn : xs.length * 8 ≤ 140737488355328) :
    Calls Tryd.prog 10 #[.slice a1 xs.length c1, .slice a2 ys.length c2] w fun e w' => e = .returned (.bool (decide (xs = ys))) ∧ Below w.heap.size w w' := by
  by_cases hl : xs.length = ys.length
  · have hb : ((xs.length : Int) != (ys.length : Int)) = false := by simp [hl]
    have HL := Lib.hid hl
    clear hl
    go_enter Tryd.func10, Tryd.ntmps10
    go_wp2
    go_loopw [5] (fun i wr => ∃ j m : Nat, j ≤ xs.length ∧ i = .int .i64 j ∧ wr = w.drewN m ∧ ∀ q, q < j → xs[q]? = ys[q]?) (fun i _ => xs.length - (intOf i).toNat)
    case atStart => exact ⟨0, 0, Nat.zero_le _, rfl, rfl, fun _ h => absurd h (by omega)⟩
    case round =>
      obtain ⟨j, m, hj, rfl, rfl, hq⟩ := hrel
      have HQ := Lib.hid hq
      clear hq
      by_cases hlt : j < xs.length
      · obtain ⟨b1, o1, rfl, k1⟩ := h1.at_ j hlt
        obtain ⟨b2, o2, rfl, k2⟩ := h2.at_ j (by have := HL.out; omega)
        have i2 : (j : Int) < (ys.length : Int) := by have := HL.out; omega
        have i1 : (j : Int) < (xs.length : Int) := by omega
        have i0 : (0 : Int) ≤ (j : Int) := by omega
        clear h1 h2
        obtain ⟨x, hx⟩ : ∃ x, xs[j]?.getD 0 = x := ⟨_, rfl⟩
        obtain ⟨y, hy⟩ : ∃ y, ys[j]?.getD 0 = y := ⟨_, rfl⟩
        rw [hx] at k1
        rw [hy] at k2
        have HX := Lib.hid hx
        have HY := Lib.hid hy
        clear hx hy
        by_cases he : x = y
        · subst he
          have hb2 : (x != x) = false := by simp
          go_wp2
          go_quiet (fail)
          go_wp2
          go_roundw
          case rel =>
            refine ⟨j + 1, m + nq, by omega, by go_num, rfl, fun q hq => ?_⟩
            by_cases e : q < j
            · exact HQ.out q e
            · obtain rfl : q = j := by omega
              have hl2 : q < ys.length := by have := HL.out; omega
              have h3 := HX.out
              have h4 := HY.out
              rw [List.getElem?_eq_getElem hlt] at h3 ⊢
              rw [List.getElem?_eq_getElem hl2] at h4 ⊢
              simp only [Option.getD_some] at h3 h4
              rw [h3, h4]
          case measure => simp [intOf]; omega
        · have hb2 : (x != y) = true := by simp [he]
          go_wp2
          go_quiet (fail)
          go_wp2
          go_ret
          refine ⟨ret_bool ?_, below_drewN (below_drewN (Below.refl _ _) _) _⟩
          symm
          rw [decide_eq_false_iff_not]
          intro e
          apply he
          rw [← HX.out, ← HY.out, e]
      · obtain rfl : j = xs.length := by omega
        go_wp2
        go_ret
        refine ⟨ret_bool ?_, below_drewN (Below.refl _ _) _⟩
        symm
        rw [decide_eq_true_eq]
        apply List.ext_getElem?
        intro q
        by_cases e : q < xs.length
        · exact HQ.out q e
        · rw [List.getElem?_eq_none (by omega), List.getElem?_eq_none (by have := HL.out; omega)]
  · have hb : ((xs.length : Int) != (ys.length : Int)) = true := by simp; omega
    go_enter Tryd.func10, Tryd.ntmps10
    go_wp2
    go_ret
    exact ⟨ret_bool (by simp; intro e; exact hl (by rw [e])), Below.refl _ _⟩
end Go.Proofs.YtojcdljpgginjaaDoor
