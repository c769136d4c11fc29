/-
  Contracts of functions of the program, laid together.
-/
import Derived.Test.YtcenagpkfimkbaaGreatDoorTopSlotsM13
import Derived.Deep.LoopGhost
import Derived.WalkMore
namespace Go.Proofs.YtcenagpkfimkbaaGreatDoor
open Go Go.RowKit

def freeB (xs : List Bool) (n a : Nat) : Bool := decide (a + n ≤ xs.length) && decide (∀ i, i < n → xs.getD (a + i) false = false)
def findM (xs : List Bool) (n : Int) : Option Nat := if n < 1 then none else (List.range (xs.length + 1)).find? (freeB xs n.toNat)
theorem findM_some {xs : List Bool} {n q : Nat} (h0 : 1 ≤ n) (hq : freeB xs n q = true) (h : ∀ a, a < q → freeB xs n a = false) : findM xs (n : Int) = some q := by
  unfold findM
  rw [if_neg (by omega), Int.toNat_natCast, List.find?_range_eq_some]
  have : q + n ≤ xs.length := by simp [freeB] at hq; exact hq.1
  exact ⟨hq, by simp; omega, fun a ha => by simp [h a ha]⟩
theorem findM_none {xs : List Bool} {n : Nat} (h : ∀ a, freeB xs n a = false) : findM xs (n : Int) = none := by
  unfold findM
  split
  · rfl
  · rw [Int.toNat_natCast, List.find?_range_eq_none]
    intro a _
    simp [h a]
theorem freeB_far {xs : List Bool} {n a : Nat} (h : xs.length < a + n) : freeB xs n a = false := by simp [freeB]; omega
theorem freeB_hit {xs : List Bool} {n a p : Nat} (h : xs.getD p false = true) (h1 : a ≤ p) (h2 : p < a + n) : freeB xs n a = false := by
  simp only [freeB, Bool.and_eq_false_iff, decide_eq_false_iff_not]
  right
  intro hall
  have := hall (p - a) (by omega)
  rw [show a + (p - a) = p by omega, h] at this
  cases this

set_option maxRecDepth 100000 in
set_option maxHeartbeats 1000000 in
theorem bFind_any (b g : Nat) (xs : List Bool) (n : Int) (w : World) (h : RowAt w b g xs) (hn1 : n ≤ 9223372036854775807) :
    Calls Tryz.prog 215 #[.pointer (some ⟨b, 0, none⟩), .int .i64 n] w fun e w' => e = .returned (.tuple #[.int .i64 ((findM xs n).getD 0 : Nat), .bool (findM xs n).isSome]) ∧ w = w' := by
  have H := Lib.hid h
  have hm : xs.length ≤ 16384 := by obtain ⟨_, _, _, _, h⟩ := h; exact h
  obtain ⟨m, hM⟩ : ∃ x, xs.length = x := ⟨_, rfl⟩
  have c1 : w.cell? ⟨b, 1, none⟩ = some (.int .i64 m) := by
    obtain ⟨_, _, h1, _, _⟩ := h
    have := heap_cell h1 1
    simpa [hM] using this
  rw [hM] at hm
  have HM := Lib.hid hM
  clear h hM
  by_cases h1 : n < 1
  · have HE : Hid (findM xs n = none) := Lib.hid (by rw [findM, if_pos h1])
    clear c1
    go_enter Tryz.func215, Tryz.ntmps215
    go_wp2
    go_step3
    go_wp2
    try rw [Exit.noGoto_ret]
    go_ret2
    exact ⟨by rw [HE.out]; rfl, rfl⟩
  · obtain ⟨n, rfl⟩ := Int.eq_ofNat_of_zero_le (show 0 ≤ n by omega)
    have h2 : 1 ≤ n := by omega
    go_enter Tryz.func215, Tryz.ntmps215
    go_wp2
    go_step3
    go_wp2
    go_step3
    go_wp2
    go_loopg [6] m (fun gk a wr => ∃ q : Nat, q ≤ m ∧ gk = m - q ∧ a = .int .i64 q ∧ wr = w ∧ Hid (∀ a, a < q → freeB xs n a = false))
    case atStart => exact ⟨0, by omega, by omega, rfl, rfl, Lib.hid (fun i h => by omega)⟩
    case round =>
      obtain ⟨q, hq, rfl, rfl, rfl, HV⟩ := hrel
      have i5 : IntKind.i64.wrap ((m : Int) - (q : Int)) = (m : Int) - q := by rw [IntKind.wrap_i64]; omega
      by_cases hlt : n ≤ m - q
      · have i1 : (n : Int) ≤ (m : Int) - q := by omega
        go_wp2
        go_loopg [6, 7] n (fun gi p a wx => ∃ c : Nat, c ≤ n ∧ c = gi ∧ p = .int .i64 q ∧ a = .int .i64 ((c : Int) - 1) ∧ wx = wr ∧ Hid (∀ i, c ≤ i → i < n → xs.getD (q + i) false = false))
        case atStart => exact ⟨n, by omega, rfl, rfl, rfl, rfl, Lib.hid (fun i h1 h2 => by omega)⟩
        case round =>
          obtain ⟨c, hc, rfl, rfl, rfl, rfl, HI⟩ := hrel
          rcases c with _ | c
          · have HE : Hid (findM xs (n : Int) = some q) := Lib.hid (findM_some h2 (by
              simp only [freeB, Bool.and_eq_true, decide_eq_true_eq]
              exact ⟨by rw [HM.out]; omega, fun i hi => HI.out i (by omega) hi⟩) HV.out)
            go_wp2
            try rw [Exit.noGoto_ret]
            go_ret2
            exact ⟨by rw [HE.out]; rfl, rfl⟩
          · have e1 : (((c + 1 : Nat) : Int) - 1) = (c : Int) := by omega
            rw [e1]
            have i6 : (q : Int) + (c : Int) ≤ 20000 := by omega
            have hh := bHas_any b g xs ((q + c : Nat) : Int) _ H.out
            rw [hasM_nat, show ((q + c : Nat) : Int) = (q : Int) + (c : Int) by omega] at hh
            obtain ⟨x, hx⟩ : ∃ x, xs.getD (q + c) false = x := ⟨_, rfl⟩
            rw [hx] at hh
            have HX := Lib.hid hx
            clear hx e1
            go_wp2_with fail
            refine hh.mono ?_
            rintro e w2 ⟨rfl, rfl⟩
            clear hh
            cases x
            · have HI2 : Hid (∀ i, c ≤ i → i < n → xs.getD (q + i) false = false) := Lib.hid fun i h1 h2 => by
                by_cases e : i = c
                · subst e; exact HX.out
                · exact HI.out i (by omega) h2
              go_wp2
              go_roundg c
              case rel => exact ⟨c, by omega, rfl, by simp, by simp, rfl, HI2⟩
              case measure => omega
            · have HV2 : Hid (∀ a, a < q + (c + 1) → freeB xs n a = false) := Lib.hid fun a ha => by
                by_cases e : a < q
                · exact HV.out a e
                · exact freeB_hit HX.out (by omega) (by omega)
              go_wp2
              go_roundg (m - (q + (c + 1)))
              case rel => exact ⟨q + (c + 1), by omega, rfl, by simp, rfl, HV2⟩
              case measure => omega
      · have i1 : ¬ (n : Int) ≤ (m : Int) - q := by omega
        have HE : Hid (findM xs n = none) := Lib.hid (findM_none fun a => by
          by_cases e : a < q
          · exact HV.out a e
          · exact freeB_far (by rw [HM.out]; omega))
        go_wp2
        try rw [Exit.noGoto_ret]
        go_ret2
        exact ⟨by rw [HE.out]; rfl, rfl⟩
end Go.Proofs.YtcenagpkfimkbaaGreatDoor
