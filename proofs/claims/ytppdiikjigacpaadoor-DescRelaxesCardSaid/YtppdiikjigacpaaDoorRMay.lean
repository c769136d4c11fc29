/-
  The document's answers: may a type be, may a list be.
-/
import Derived.Test.YtppdiikjigacpaaDoorMay
namespace Go.Proofs.YtppdiikjigacpaaDoor
open Go Go.RowKit

theorem mayD_eq (d : List Int) : mayD d = (d.all kindB && decide (0 < d.length ∧ d.length < 61)) := by
  unfold mayD
  rw [Bool.and_comm]
  congr 1
  rw [Bool.eq_iff_iff]
  simp
  omega

set_option maxHeartbeats 1000000 in
theorem rMayD_any (fa : Option Addr) (d : List Int) (c : Nat) (w : World) (hR : Reads .i64 w fa d) (hn : d.length ≤ 9223372036854775807) :
    Calls Tryd.prog 12 #[.agg #[.slice fa d.length c]] w fun e w' => e = .returned (.bool (mayD d)) ∧ Below w.heap.size w w' := by
  obtain ⟨W, hW⟩ : ∃ W, W = w.alloc (.cells #[.slice fa d.length c] 36) := ⟨_, rfl⟩
  have hbo : Below w.heap.size w W := by rw [hW]; exact (Below.refl _ _).alloc (Nat.le_refl _) _
  have hc0 : W.cell? ⟨w.heap.size, 0, none⟩ = some (.slice fa d.length c) := by rw [hW, heap_cell (heap_alloc_eq _ _)]; rfl
  have HW := Lib.hid hW
  have HR := Lib.hid (hR.below hbo)
  have HB := Lib.hid hbo
  clear hW hR hbo
  go_enter Tryd.func12, Tryd.ntmps12
  go_wp2_with fail
  rw [← HW.out]
  go_wp2
  go_loopw [3] (fun i wr => ∃ j : Nat, j ≤ d.length ∧ i = .int .i64 j ∧ Hid ((d.take j).all kindB = true) ∧ wr = W) (fun i _ => d.length - (intOf i).toNat)
  case atStart => exact ⟨0, Nat.zero_le _, rfl, Lib.hid (by simp), rfl⟩
  case round =>
    obtain ⟨j, hj, rfl, hA, rfl⟩ := hrel
    by_cases hlt : j < d.length
    · obtain ⟨b, off, rfl, hc⟩ := HR.out.at_ j hlt
      obtain ⟨x, hx⟩ : ∃ x, d[j]?.getD 0 = x := ⟨_, rfl⟩
      have hx2 : d[j]? = some x := by rw [List.getElem?_eq_getElem hlt] at hx ⊢; simp only [Option.getD_some] at hx; rw [hx]
      rw [hx] at hc
      have HX := Lib.hid hx2
      clear hx hx2
      rcases (show x < 0 ∨ (¬ x < 0 ∧ 3 < x) ∨ (¬ x < 0 ∧ ¬ 3 < x) by omega) with h | ⟨h1, h2⟩ | ⟨h1, h2⟩
      · have hk : kindB x = false := by simp [kindB]; omega
        have HK := Lib.hid hk
        clear hk
        go_wp2
        go_ret
        exact ⟨ret_bool (by rw [mayD_eq, all_false_of HX.out HK.out]; rfl), HB.out⟩
      · have hk : kindB x = false := by simp [kindB]; omega
        have HK := Lib.hid hk
        clear hk
        go_wp2
        go_ret
        exact ⟨ret_bool (by rw [mayD_eq, all_false_of HX.out HK.out]; rfl), HB.out⟩
      · have hk : kindB x = true := by simp [kindB]; omega
        have HK := Lib.hid hk
        clear hk
        go_wp2
        go_roundw
        case rel => exact ⟨j + 1, by omega, by go_num, Lib.hid (by rw [all_take_succ HX.out, hA.out, HK.out]; rfl), trivial⟩
        case measure => simp [intOf]; omega
    · obtain rfl : j = d.length := by omega
      have h1 := hA.out
      rw [List.take_length] at h1
      have HA := Lib.hid h1
      clear h1
      rcases (show d.length = 0 ∨ (0 < d.length ∧ 61 ≤ d.length) ∨ (0 < d.length ∧ d.length < 61) by omega) with h | ⟨h1, h2⟩ | ⟨h1, h2⟩
      · have hi : ¬ (0 : Int) < (d.length : Int) := by omega
        have HH := Lib.hid h
        clear h
        go_wp2
        go_ret
        exact ⟨ret_bool (by rw [mayD_eq, HA.out]; have := HH.out; simp; omega), HB.out⟩
      · have hi : (0 : Int) < (d.length : Int) := by omega
        have hj : ¬ (d.length : Int) < 61 := by omega
        go_wp2
        go_ret
        exact ⟨ret_bool (by rw [mayD_eq, HA.out]; simp; omega), HB.out⟩
      · have hi : (0 : Int) < (d.length : Int) := by omega
        have hj : (d.length : Int) < 61 := by omega
        go_wp2
        go_ret
        exact ⟨ret_bool (by rw [mayD_eq, HA.out]; simp; omega), HB.out⟩

set_option maxHeartbeats 1000000 in
theorem rListD_any (a : Option Addr) (ds : List (List Int)) (c : Nat) (w : World) (hD : Descs w a ds) (hd : ∀ d ∈ ds, d.length ≤ 4000) (hn : ds.length ≤ 9223372036854775807) :
    Calls Tryd.prog 14 #[.slice a ds.length c] w fun e w' => e = .returned (.bool (listD ds)) ∧ Below w.heap.size w w' := by
  have H := Lib.hid (And.intro hD hd)
  clear hD hd
  go_enter Tryd.func14, Tryd.ntmps14
  go_wp2
  go_loopw [3] (fun i wr => ∃ j : Nat, j ≤ ds.length ∧ i = .int .i64 j ∧ Hid ((ds.take j).all mayD = true) ∧ Below w.heap.size w wr) (fun i _ => ds.length - (intOf i).toNat)
  case atStart => exact ⟨0, Nat.zero_le _, rfl, Lib.hid (by simp), Below.refl _ _⟩
  case round =>
    obtain ⟨j, hj, rfl, hA, hB⟩ := hrel
    by_cases hlt : j < ds.length
    · obtain ⟨b, off, fa, fc, d, rfl, hx2, hc, hr, _⟩ := (H.out.1.below hB).at_ j hlt
      have HX := Lib.hid hx2
      have hP := rMayD_any fa d fc wr hr (by have := H.out.2 d (List.mem_of_getElem? hx2); omega)
      clear hx2 hr
      cases hk : mayD d
      · rw [hk] at hP
        have HK := Lib.hid hk
        clear hk
        go_wp2_with fail
        refine hP.mono ?_
        rintro e w' ⟨rfl, hb⟩
        clear hP hc
        go_wp2
        go_ret
        exact ⟨ret_bool (by unfold listD; rw [all_false_of HX.out HK.out]; simp), hB.trans (hb.mono hB.size)⟩
      · rw [hk] at hP
        have HK := Lib.hid hk
        clear hk
        go_wp2_with fail
        refine hP.mono ?_
        rintro e w' ⟨rfl, hb⟩
        clear hP hc
        go_wp2
        go_roundw
        case rel => exact ⟨j + 1, by omega, by go_num, Lib.hid (by rw [all_take_succ HX.out, hA.out, HK.out]; rfl), hB.trans (hb.mono hB.size)⟩
        case measure => simp [intOf]; omega
    · obtain rfl : j = ds.length := by omega
      have h1 := hA.out
      rw [List.take_length] at h1
      have HA := Lib.hid h1
      clear h1
      go_wp2
      go_ret
      refine ⟨ret_bool ?_, hB⟩
      unfold listD
      rw [HA.out, Bool.and_true, Bool.eq_iff_iff]
      simp
      omega
end Go.Proofs.YtppdiikjigacpaaDoor
