/-
  Contracts of functions of the program, laid together.
-/
import Derived.Test.YtcenagpkfimkbaaGreatDoorTopSlotsM2
import Derived.Shelf.Abstract
namespace Go.Proofs.YtcenagpkfimkbaaGreatDoor
open Go Go.RowKit

def mayD (d : List Int) : Bool := decide (1 ≤ d.length ∧ d.length ≤ 60) && d.all kindB
def listD (ds : List (List Int)) : Bool := decide (ds.length ≤ 32) && ds.all mayD
theorem all_take_succ {α : Type} {p : α → Bool} {xs : List α} {j : Nat} {x : α} (h : xs[j]? = some x) : (xs.take (j + 1)).all p = ((xs.take j).all p && p x) := by
  rw [List.take_add_one, h]
  simp
theorem all_false_of {α : Type} {p : α → Bool} {xs : List α} {j : Nat} {x : α} (h : xs[j]? = some x) (hp : p x = false) : xs.all p = false := by
  rw [List.all_eq_false]
  exact ⟨x, List.mem_of_getElem? h, by simp [hp]⟩

theorem May1_any (k : Int) (w : World) (h0 : Tab w) :
    Calls Tryz.prog 139 #[.int .i64 k] w fun e w' => e = .returned (.bool (!(kindB k))) ∧ w = w' := by
  go_enter Tryz.func139, Tryz.ntmps139
  go_wp2_with (go_at_call 140; refine (Kind_any _ _ h0).mono ?_; rintro e w' ⟨rfl, rfl⟩)
  go_ret
  exact ⟨rfl, rfl⟩

def IdxRet (B : Bool) (w : World) (e : Ending) (w' : World) : Prop := ∃ r : Int, e = .returned (.int .i64 r) ∧ decide (0 ≤ r) = B ∧ Below w.heap.size w w'

set_option maxHeartbeats 1000000 in
theorem IndexFuncI_any (a : Option Addr) (xs : List Int) (c : Nat) (w : World) (h0 : Tab w) (hR : Reads .i64 w a xs) (hn : xs.length ≤ 9223372036854775807) :
    Calls Tryz.prog 180 #[.slice a xs.length c, .func (.func 139) #[] #[]] w (IdxRet (!(xs.all kindB)) w) := by
  have eg := enters_of Tryz.func139 (by kernel_rfl) rfl
  have HT := Lib.hid h0
  clear h0
  go_enter Tryz.func180, Tryz.ntmps180
  go_wp2
  go_loopw [5, 8] (fun _ i wr => ∃ j : Nat, j ≤ xs.length ∧ i = .int .i64 j ∧ Hid ((xs.take j).all kindB = true) ∧ wr = w) (fun _ i _ => xs.length - (intOf i).toNat)
  case atStart => exact ⟨0, Nat.zero_le _, rfl, Lib.hid (by simp), rfl⟩
  case round =>
    obtain ⟨j, hj, rfl, hA, rfl⟩ := hrel
    by_cases hlt : j < xs.length
    · obtain ⟨b, off, rfl, hc⟩ := hR.at_ j hlt
      obtain ⟨x, hx⟩ : ∃ x, xs[j]?.getD 0 = x := ⟨_, rfl⟩
      have hx2 : xs[j]? = some x := by rw [List.getElem?_eq_getElem hlt] at hx ⊢; simp only [Option.getD_some] at hx; rw [hx]
      rw [hx] at hc
      have HX := Lib.hid hx2
      clear hx hx2 hR
      have hP := May1_any x wr HT.out
      cases hk : kindB x
      · rw [hk] at hP
        have HK := Lib.hid hk
        clear hk
        go_wp2_with (go_at_call 139; refine hP.mono ?_; rintro e w' ⟨rfl, rfl⟩)
        go_ret
        exact ⟨_, rfl, by rw [all_false_of HX.out HK.out]; simp, Below.refl _ _⟩
      · rw [hk] at hP
        have HK := Lib.hid hk
        clear hk
        go_wp2_with (go_at_call 139; refine hP.mono ?_; rintro e w' ⟨rfl, rfl⟩)
        go_roundw
        case rel => exact ⟨j + 1, by omega, by go_num, Lib.hid (by rw [all_take_succ HX.out, hA.out, HK.out]; rfl), trivial⟩
        case measure => simp [intOf]; omega
    · obtain rfl : j = xs.length := by omega
      go_wp2
      go_ret
      have h1 := hA.out
      rw [List.take_length] at h1
      exact ⟨_, rfl, by rw [h1]; rfl, Below.refl _ _⟩
theorem ContainsFuncI_any (a : Option Addr) (xs : List Int) (c : Nat) (w : World) (h0 : Tab w) (hR : Reads .i64 w a xs) (hn : xs.length ≤ 9223372036854775807) :
    Calls Tryz.prog 141 #[.slice a xs.length c, .func (.func 139) #[] #[]] w fun e w' => e = .returned (.bool (!(xs.all kindB))) ∧ Below w.heap.size w w' := by
  have hI := IndexFuncI_any a xs c w h0 hR hn
  generalize (!(xs.all kindB)) = B at hI ⊢
  clear h0 hR
  go_enter Tryz.func141, Tryz.ntmps141
  go_wp2_with fail
  refine hI.mono ?_
  rintro e w' ⟨r, rfl, hr, hb⟩
  have HR := Lib.hid hr
  clear hr
  go_wp2
  go_ret
  exact ⟨ret_bool HR.out, hb⟩

set_option maxHeartbeats 1000000 in
theorem May_any (fa : Option Addr) (d : List Int) (c : Nat) (w : World) (h0 : Tab w) (hR : Reads .i64 w fa d) (hn : d.length ≤ 9223372036854775807) :
    Calls Tryz.prog 95 #[.agg #[.slice fa d.length c]] w fun e w' => e = .returned (.bool (mayD d)) ∧ Below w.heap.size w w' := by
  have hbo : Below w.heap.size w (w.alloc (.cells #[.slice fa d.length c] 76)) := (Below.refl _ _).alloc (Nat.le_refl _) _
  have HB := Lib.hid hbo
  have hC := ContainsFuncI_any fa d c _ (h0.below h0.lt hbo) (hR.below hbo) hn
  clear h0 hR hbo
  rcases (show d.length < 1 ∨ (1 ≤ d.length ∧ 60 < d.length) ∨ (1 ≤ d.length ∧ d.length ≤ 60) by omega) with h | ⟨h1, h2⟩ | ⟨h1, h2⟩
  · have e1 : mayD d = false := by simp [mayD]; omega
    rw [e1]
    clear hC e1
    have i1 : ¬ (1 : Int) ≤ (d.length : Int) := by omega
    go_enter Tryz.func95, Tryz.ntmps95
    go_wp2
    go_ret
    exact ⟨rfl, HB.out⟩
  · have e1 : mayD d = false := by simp [mayD]; omega
    rw [e1]
    clear hC e1
    have i1 : (1 : Int) ≤ (d.length : Int) := by omega
    have i2 : ¬ (d.length : Int) ≤ 60 := by omega
    go_enter Tryz.func95, Tryz.ntmps95
    go_wp2
    go_ret
    exact ⟨rfl, HB.out⟩
  · have e1 : mayD d = d.all kindB := by simp [mayD, h1, h2]
    rw [e1]
    generalize d.all kindB = B at hC ⊢
    have i1 : (1 : Int) ≤ (d.length : Int) := by omega
    have i2 : (d.length : Int) ≤ 60 := by omega
    clear e1
    go_enter Tryz.func95, Tryz.ntmps95
    go_wp2_with fail
    refine hC.mono ?_
    rintro e w1 ⟨rfl, hb1⟩
    clear hC
    go_wp2
    go_ret
    exact ⟨by simp, HB.out.trans (hb1.mono HB.out.size)⟩
theorem List1_any (fa : Option Addr) (d : List Int) (c : Nat) (w : World) (h0 : Tab w) (hR : Reads .i64 w fa d) (hn : d.length ≤ 9223372036854775807) :
    Calls Tryz.prog 94 #[.agg #[.slice fa d.length c]] w fun e w' => e = .returned (.bool (!(mayD d))) ∧ Below w.heap.size w w' := by
  have hbo : Below w.heap.size w (w.alloc (.cells #[.slice fa d.length c] 76)) := (Below.refl _ _).alloc (Nat.le_refl _) _
  have HB := Lib.hid hbo
  have hM := May_any fa d c _ (h0.below h0.lt hbo) (hR.below hbo) hn
  clear h0 hR hbo
  go_enter Tryz.func94, Tryz.ntmps94
  go_wp2_with fail
  refine hM.mono ?_
  rintro e w1 ⟨rfl, hb1⟩
  clear hM
  go_wp2
  go_ret
  exact ⟨rfl, HB.out.trans (hb1.mono HB.out.size)⟩

set_option maxHeartbeats 1000000 in
theorem IndexFuncD_any (a : Option Addr) (ds : List (List Int)) (c : Nat) (w : World) (h0 : Tab w) (hD : Descs w a ds) (hd : ∀ d ∈ ds, d.length ≤ 4000) (hn : ds.length ≤ 9223372036854775807) :
    Calls Tryz.prog 142 #[.slice a ds.length c, .func (.func 94) #[] #[]] w (IdxRet (!(ds.all mayD)) w) := by
  have eg := enters_of Tryz.func94 (by kernel_rfl) rfl
  have H := Lib.hid (And.intro h0 (And.intro hD hd))
  clear h0 hD hd
  go_enter Tryz.func142, Tryz.ntmps142
  go_wp2
  go_loopw [5, 8] (fun _ i wr => ∃ j : Nat, j ≤ ds.length ∧ i = .int .i64 j ∧ Hid ((ds.take j).all mayD = true) ∧ Below w.heap.size w wr) (fun _ i _ => ds.length - (intOf i).toNat)
  case atStart => exact ⟨0, Nat.zero_le _, rfl, Lib.hid (by simp), Below.refl _ _⟩
  case round =>
    obtain ⟨j, hj, rfl, hA, hB⟩ := hrel
    by_cases hlt : j < ds.length
    · obtain ⟨b, off, fa, fc, d, rfl, hx2, hc, hr, _⟩ := (H.out.2.1.below hB).at_ j hlt
      have HX := Lib.hid hx2
      have hP := List1_any fa d fc wr (H.out.1.below H.out.1.lt hB) hr (by have := H.out.2.2 d (List.mem_of_getElem? hx2); omega)
      clear hx2 hr
      cases hk : mayD d
      · rw [hk] at hP
        have HK := Lib.hid hk
        clear hk
        go_wp2_with fail
        refine hP.mono ?_
        rintro e w' ⟨rfl, hb⟩
        clear hP hc
        go_wp2
        go_ret
        exact ⟨_, rfl, by rw [all_false_of HX.out HK.out]; simp, hB.trans (hb.mono hB.size)⟩
      · rw [hk] at hP
        have HK := Lib.hid hk
        clear hk
        go_wp2_with fail
        refine hP.mono ?_
        rintro e w' ⟨rfl, hb⟩
        clear hP hc
        go_wp2
        go_roundw
        case rel => exact ⟨j + 1, by omega, by go_num, Lib.hid (by rw [all_take_succ HX.out, hA.out, HK.out]; rfl), hB.trans (hb.mono hB.size)⟩
        case measure => simp [intOf]; omega
    · obtain rfl : j = ds.length := by omega
      go_wp2
      go_ret
      have h1 := hA.out
      rw [List.take_length] at h1
      exact ⟨_, rfl, by rw [h1]; rfl, hB⟩
theorem ContainsFuncD_any (a : Option Addr) (ds : List (List Int)) (c : Nat) (w : World) (h0 : Tab w) (hD : Descs w a ds) (hd : ∀ d ∈ ds, d.length ≤ 4000) (hn : ds.length ≤ 9223372036854775807) :
    Calls Tryz.prog 96 #[.slice a ds.length c, .func (.func 94) #[] #[]] w fun e w' => e = .returned (.bool (!(ds.all mayD))) ∧ Below w.heap.size w w' := by
  have hI := IndexFuncD_any a ds c w h0 hD hd hn
  generalize (!(ds.all mayD)) = B at hI ⊢
  clear h0 hD hd
  go_enter Tryz.func96, Tryz.ntmps96
  go_wp2_with fail
  refine hI.mono ?_
  rintro e w' ⟨r, rfl, hr, hb⟩
  have HR := Lib.hid hr
  clear hr
  go_wp2
  go_ret
  exact ⟨ret_bool HR.out, hb⟩
theorem List_any (a : Option Addr) (ds : List (List Int)) (c : Nat) (w : World) (h0 : Tab w) (hD : Descs w a ds) (hd : ∀ d ∈ ds, d.length ≤ 4000) (hn : ds.length ≤ 9223372036854775807) :
    Calls Tryz.prog 38 #[.slice a ds.length c] w fun e w' => e = .returned (.bool (listD ds)) ∧ Below w.heap.size w w' := by
  have hC := ContainsFuncD_any a ds c w h0 hD hd hn
  clear h0 hD hd
  by_cases h : ds.length ≤ 32
  · have e1 : listD ds = ds.all mayD := by simp [listD, h]
    rw [e1]
    generalize ds.all mayD = B at hC ⊢
    have i1 : (ds.length : Int) ≤ 32 := by omega
    clear e1 h
    go_enter Tryz.func38, Tryz.ntmps38
    go_wp2_with fail
    refine hC.mono ?_
    rintro e w1 ⟨rfl, hb1⟩
    clear hC
    go_wp2
    go_ret
    exact ⟨by simp, hb1⟩
  · have e1 : listD ds = false := by simp [listD]; omega
    rw [e1]
    have i1 : ¬ (ds.length : Int) ≤ 32 := by omega
    clear e1 hC h
    go_enter Tryz.func38, Tryz.ntmps38
    go_wp2
    go_ret
    exact ⟨rfl, Below.refl _ _⟩
end Go.Proofs.YtcenagpkfimkbaaGreatDoor
