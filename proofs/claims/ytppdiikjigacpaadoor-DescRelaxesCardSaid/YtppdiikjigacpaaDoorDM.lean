/-
  The law DescMay, walked.
-/
import Derived.Test.YtppdiikjigacpaaDoorRMay
import Derived.Test.YtppdiikjigacpaaDoorPtr
import Derived.Test.YtppdiikjigacpaaDoorDK
import Derived.Deep.RegionHeld3
namespace Go.Proofs.YtppdiikjigacpaaDoor
open Go Go.RowKit

theorem may_keep {w0 w1 w2 : World} {db : Nat} {fa : Option Addr} {d : List Int} {fc : Nat} (hb : Below w1.heap.size w1 w2)
    (h : w1.cell? ⟨db, 0, none⟩ = some (.slice fa d.length fc) ∧ Below w0.heap.size w0 w1 ∧ Tab w1 ∧ Reads .i64 w1 fa d) :
    w2.cell? ⟨db, 0, none⟩ = some (.slice fa d.length fc) ∧ Below w0.heap.size w0 w2 ∧ Tab w2 ∧ Reads .i64 w2 fa d :=
  ⟨(hb.cell (cell_lt h.1)).trans h.1, h.2.1.trans (hb.mono h.2.1.size), h.2.2.1.below h.2.2.1.lt hb, h.2.2.2.below hb⟩
theorem may_call {w0 w : World} {db : Nat} {fa : Option Addr} {d : List Int} {fc : Nat} (h : w.cell? ⟨db, 0, none⟩ = some (.slice fa d.length fc) ∧ Below w0.heap.size w0 w ∧ Tab w ∧ Reads .i64 w fa d) (hn : d.length ≤ 100) :
    Calls Tryd.prog 11 #[.agg #[.slice fa d.length fc]] w fun e w' => e = .returned (.bool (mayD d)) ∧ Below w.heap.size w w' :=
  May_any fa d fc w h.2.2.1 h.2.2.2 (by omega)
theorem rmay_call {w0 w : World} {db : Nat} {fa : Option Addr} {d : List Int} {fc : Nat} (h : w.cell? ⟨db, 0, none⟩ = some (.slice fa d.length fc) ∧ Below w0.heap.size w0 w ∧ Tab w ∧ Reads .i64 w fa d) (hn : d.length ≤ 100) :
    Calls Tryd.prog 12 #[.agg #[.slice fa d.length fc]] w fun e w' => e = .returned (.bool (mayD d)) ∧ Below w.heap.size w w' :=
  rMayD_any fa d fc w h.2.2.2 (by omega)

set_option maxRecDepth 100000 in
set_option maxHeartbeats 4000000 in
theorem DescMay_any (a : Option Addr) (ds : List (List Int)) (c : Nat) (k : Int) (w : World) (hT : Tab w) (hD : Descs w a ds) (hn : ds.length ≤ 9223372036854775807) :
    Calls Tryd.prog 4 #[.slice a ds.length c, .int .i64 k] w fun e w' => e = .returned (.bool true) ∧ Below w.heap.size w w' := by
  have hg := Great_any a ds c w hD hn
  have H0 := Lib.hid (And.intro hT hD)
  clear hT hD
  cases hgr : greatB ds
  · obtain ⟨q1, q2⟩ := greatB_false hgr
    rw [hgr] at hg
    have HQ := Lib.hid q2
    clear q2 hgr
    go_enter Tryd.func4, Tryd.ntmps4
    go_wp2_with fail
    refine hg.mono ?_
    rintro e w1 ⟨rfl, hb⟩
    have HB1 := Lib.hid hb
    clear hg hb
    go_wp2
    go_loopw [12] (fun i wr => ∃ j : Nat, j ≤ ds.length ∧ i = .int .i64 j ∧ Below w.heap.size w wr) (fun i _ => ds.length - (intOf i).toNat)
    case atStart => exact ⟨0, Nat.zero_le _, rfl, HB1.out⟩
    case round =>
      obtain ⟨j, hj, rfl, hB⟩ := hrel
      by_cases hlt : j < ds.length
      · obtain ⟨b, off, fa, fc, d, rfl, hx2, hc, hr, _⟩ := (H0.out.2.below hB).at_ j hlt
        have hdl := HQ.out d (List.mem_of_getElem? hx2)
        have hbn : Below wr.heap.size wr (wr.alloc (.cells #[.slice fa d.length fc] 36)) := (Below.refl _ _).alloc (Nat.le_refl _) _
        have hS : (wr.alloc (.cells #[.slice fa d.length fc] 36)).cell? ⟨wr.heap.size, 0, none⟩ = some (.slice fa d.length fc) ∧ Below w.heap.size w (wr.alloc (.cells #[.slice fa d.length fc] 36)) ∧ Tab (wr.alloc (.cells #[.slice fa d.length fc] 36)) ∧ Reads .i64 (wr.alloc (.cells #[.slice fa d.length fc] 36)) fa d :=
          ⟨by rw [heap_cell (heap_alloc_eq _ _)]; rfl, hB.trans (hbn.mono hB.size), (H0.out.1.below H0.out.1.lt hB).below (H0.out.1.below H0.out.1.lt hB).lt hbn, hr.below hbn⟩
        have HS := Lib.hid hS
        have HJ := Lib.hid hx2
        clear hx2 hr hbn hS hB
        obtain ⟨B, hBd⟩ : ∃ B, mayD d = B := ⟨_, rfl⟩
        have e1 : (B != B) = false := by simp
        have HBD := Lib.hid hBd
        clear hBd
        go_wp2
        have hS := HS.out
        clear HS hc
        generalize wr.alloc _ = wd at hS ⊢
        obtain ⟨s0, s1, s2, s3⟩ := hS
        have hSd : wd.drew.cell? ⟨wr.heap.size, 0, none⟩ = some (.slice fa d.length fc) ∧ Below w.heap.size w wd.drew ∧ Tab wd.drew ∧ Reads .i64 wd.drew fa d := may_keep (w1 := wd) ⟨rfl, rfl, rfl, Nat.le_refl _, fun _ _ => rfl⟩ ⟨s0, s1, s2, s3⟩
        go_region_held3 (fun w' => w'.cell? ⟨wr.heap.size, 0, none⟩ = some (.slice fa d.length fc) ∧ Below w.heap.size w w' ∧ Tab w' ∧ Reads .i64 w' fa d)
          (first | assumption | exact hSd | exact hSd.2.1 | exact hSd.2.2.1 | exact hSd.2.2.2 | (go_keep; done) | exact may_keep (by assumption) (by assumption))
          (first
            | (go_at_call 11; refine (may_call (by assumption) hdl).mono ?_; rw [HBD.out]; rintro e w' ⟨rfl, hb'⟩)
            | (go_at_call 12; refine (rmay_call (by assumption) hdl).mono ?_; rw [HBD.out]; rintro e w' ⟨rfl, hb'⟩))
        rename_i hS
        have hB2 := hS.2.1
        clear hS hSd s0 s1 s2 s3
        go_wp2
        go_roundw
        case rel => exact ⟨j + 1, by omega, by go_num, hB2⟩
        case measure => simp [intOf]; omega
      · obtain rfl : j = ds.length := by omega
        have HB := Lib.hid hB
        clear hB
        go_wp2_with fail
        refine (fixed_any _ (H0.out.1.below H0.out.1.lt HB.out)).mono ?_
        rintro e w2 ⟨rfl, hb2⟩
        have HB2 := Lib.hid (HB.out.trans (hb2.mono HB.out.size))
        clear hb2
        have hd4 : ∀ d ∈ ds, d.length ≤ 4000 := fun d hd => by have := HQ.out d hd; omega
        have HD4 := Lib.hid hd4
        clear hd4
        obtain ⟨B, hBd⟩ : ∃ B, listD ds = B := ⟨_, rfl⟩
        have e1 : (B == B) = true := by simp
        have hL := List_any a ds c w2 (H0.out.1.below H0.out.1.lt HB2.out) (H0.out.2.below HB2.out) HD4.out hn
        rw [hBd] at hL
        have HBD := Lib.hid hBd
        clear hBd
        go_wp2_with fail
        refine hL.mono ?_
        rintro e w3 ⟨rfl, hb3⟩
        have HB3 := Lib.hid (HB2.out.trans (hb3.mono HB2.out.size))
        clear hb3 hL
        have hL := rListD_any a ds c w3 (H0.out.2.below HB3.out) HD4.out hn
        rw [HBD.out] at hL
        go_wp2_with fail
        refine hL.mono ?_
        rintro e w4 ⟨rfl, hb4⟩
        have hB4 := HB3.out.trans (hb4.mono HB3.out.size)
        have HB4 := Lib.hid hB4
        have hK := Kind_any k w4 (H0.out.1.below H0.out.1.lt HB4.out)
        have hP := Pointer_any k w4 (H0.out.1.below H0.out.1.lt HB4.out)
        clear hb4 hL hB4
        rcases (show k < 0 ∨ k = 0 ∨ (1 ≤ k ∧ k ≤ 3) ∨ 3 < k by omega) with h | h | ⟨h1, h2⟩ | h
        · rw [show kindB k = false by simp [kindB]; omega] at hK
          rw [show isPtr k = false by simp [isPtr]; omega] at hP
          have i0 : ¬ 0 ≤ k := by omega
          have i1 : ¬ 1 ≤ k := by omega
          go_wp2_with (first | (go_at_call 15; refine hK.mono ?_; rintro e w' ⟨rfl, rfl⟩) | (go_at_call 16; refine hP.mono ?_; rintro e w' ⟨rfl, rfl⟩))
          go_ret
          exact ⟨rfl, HB4.out⟩
        · subst h
          rw [show kindB 0 = true by decide] at hK
          rw [show isPtr 0 = false by decide] at hP
          go_wp2_with (first | (go_at_call 15; refine hK.mono ?_; rintro e w' ⟨rfl, rfl⟩) | (go_at_call 16; refine hP.mono ?_; rintro e w' ⟨rfl, rfl⟩))
          go_ret
          exact ⟨rfl, HB4.out⟩
        · rw [show kindB k = true by simp [kindB]; omega] at hK
          rw [show isPtr k = true by simp [isPtr]; omega] at hP
          have i0 : 0 ≤ k := by omega
          go_wp2_with (first | (go_at_call 15; refine hK.mono ?_; rintro e w' ⟨rfl, rfl⟩) | (go_at_call 16; refine hP.mono ?_; rintro e w' ⟨rfl, rfl⟩))
          go_ret
          exact ⟨rfl, HB4.out⟩
        · rw [show kindB k = false by simp [kindB]; omega] at hK
          rw [show isPtr k = false by simp [isPtr]; omega] at hP
          have i0 : 0 ≤ k := by omega
          have i1 : 1 ≤ k := by omega
          have i2 : decide (k ≤ 3) = false := by simp; omega
          go_wp2_with (first | (go_at_call 15; refine hK.mono ?_; rintro e w' ⟨rfl, rfl⟩) | (go_at_call 16; refine hP.mono ?_; rintro e w' ⟨rfl, rfl⟩))
          go_ret
          exact ⟨rfl, HB4.out⟩
  · rw [hgr] at hg
    clear hgr
    go_enter Tryd.func4, Tryd.ntmps4
    go_wp2_with fail
    refine hg.mono ?_
    rintro e w1 ⟨rfl, hb⟩
    have H1 := Lib.hid (And.intro (H0.out.1.below H0.out.1.lt hb) hb)
    clear hg hb
    go_wp2_with fail
    refine (fixed_any _ H1.out.1).mono ?_
    rintro e w9 ⟨rfl, hb9⟩
    go_wp2
    go_ret
    exact ⟨rfl, H1.out.2.trans (hb9.mono H1.out.2.size)⟩
end Go.Proofs.YtppdiikjigacpaaDoor
