/-
  Which fields of an object are pointers: desc.Pointer, slot.places, the two Pointers.
-/
import Derived.Test.YtekkplledcffkaaDoorSlot4
import Derived.Test.YtekkplledcffkaaDoorTab
import Derived.Shelf.Abstract
namespace Go.Proofs.YtekkplledcffkaaDoor
open Go Go.RowKit

def isPtr (k : Int) : Bool := decide (1 ≤ k ∧ k < 4)
/-- Which of the first j are pointers. -/
def ptrN (xs : List Int) : Nat → List Int
  | 0 => []
  | j + 1 => if isPtr (xs[j]?.getD 0) = true then ptrN xs j ++ [(j : Int)] else ptrN xs j
theorem ptrN_le (xs : List Int) (j : Nat) : (ptrN xs j).length ≤ j := by
  induction j with
  | zero => simp [ptrN]
  | succ j ih =>
    unfold ptrN
    split
    · simp; omega
    · omega
theorem isPtr_ofK (k : Int) : (ofK k == 1) = isPtr k := by
  unfold ofK isPtr
  rw [Bool.eq_iff_iff]
  simp
  repeat' split
  all_goals omega

theorem Pointer_any (k : Int) (w : World) (h0 : Tab w) :
    Calls Tryd.prog 25 #[.int .i64 k] w fun e w' => e = .returned (.bool (isPtr k)) ∧ w = w' := by
  go_enter Tryd.func25, Tryd.ntmps25
  go_wp2_with (go_at_call 26; refine (of_any _ _ h0).mono ?_; rintro e w' ⟨rfl, rfl⟩)
  go_ret
  refine ⟨?_, rfl⟩
  rw [← isPtr_ofK]
  rfl

set_option maxHeartbeats 2000000 in
theorem places_any (a : Option Addr) (xs : List Int) (c : Nat) (w : World) (hT : Tab w) (hR : Reads .i64 w a xs) (hn : xs.length ≤ 100) :
    Calls Tryd.prog 24 #[.slice a xs.length c, .func (.func 25) #[] #[]] w (RetOwn .i64 3 (ptrN xs xs.length) w) := by
  obtain ⟨i0, hi, hz0, hz1, hz2⟩ := info_parts info_int
  have eg := enters_of Tryd.func25 (by kernel_rfl) rfl
  have HTl := Lib.hid hT.lt
  have HT := Lib.hid hT
  clear hT
  go_enter Tryd.func24, Tryd.ntmps24
  go_wp2
  go_loopw [5, 10] (fun v i wr => ∃ j : Nat, j ≤ xs.length ∧ i = .int .i64 j ∧ wr.ownsRow w.heap.size 3 1 v (ptrN xs j).length ((ptrN xs j).map (Value.int .i64)) ∧ Below w.heap.size w wr) (fun _ i _ => xs.length - (intOf i).toNat)
  case atStart => exact ⟨0, Nat.zero_le _, rfl, World.ownsRow_nil _ _ _ _, Below.refl _ _⟩
  case round =>
    obtain ⟨j, hj, rfl, hown, hB⟩ := hrel
    have hle := ptrN_le xs j
    by_cases hlt : j < xs.length
    · obtain ⟨b, off, rfl, hc⟩ := (hR.below hB).at_ j hlt
      obtain ⟨x, hx⟩ : ∃ x, (xs[j]?).getD 0 = x := ⟨_, rfl⟩
      rw [hx] at hc
      have HP : Hid (ptrN xs (j + 1) = if isPtr x = true then ptrN xs j ++ [(j : Int)] else ptrN xs j) := by
        show _ = _
        rw [ptrN, hx]
      clear hx
      have hP := Pointer_any x wr (HT.out.below HTl.out hB)
      clear hR
      cases hp : isPtr x
      · rw [hp] at hP
        have e9 : ptrN xs (j + 1) = ptrN xs j := by rw [HP.out, hp]; rfl
        have HE := Lib.hid e9
        clear hp e9
        go_wp2_with (go_at_call 25; refine hP.mono ?_; rintro e w' ⟨rfl, rfl⟩)
        go_roundw
        case rel => exact ⟨j + 1, by omega, by go_num, by rw [HE.out]; exact hown, hB⟩
        case measure => simp [intOf]; omega
      · rw [hp] at hP
        have e9 : ptrN xs (j + 1) = ptrN xs j ++ [(j : Int)] := by rw [HP.out, hp]; rfl
        have HE := Lib.hid e9
        clear hp e9
        go_wp2_with (first | (go_at_call 25; refine hP.mono ?_; rintro e w' ⟨rfl, rfl⟩) | (at_builtin; refine wpList_append_own _ rfl _ _ 25 rfl w.heap.size 3 i0 (.int .i64 0) 1 8 Tryd.underlying25 hi hz0 hz1 hz2 rfl (by decide) _ _ _ rfl (hown.alloc _) ⟨wr.heap.size, 0, none⟩ 1 1 [.int .i64 j] rfl rfl ?c1 ?c2 ?c3 ?c4 ?c5 ?_))
        case c1 =>
          intro q u hq
          match q, hq with
          | 0, hq => simp at hq; subst hq; simp [Addr.add]
        case c2 => intro u hu; simp at hu; subst hu; rfl
        case c3 => unfold maxLen; omega
        case c4 => omega
        case c5 => have := hB.size; simp; omega
        · intro v' w1 hown' hgrow _
          have hB1 := (hB.alloc hB.size (.cells #[.int .i64 j] 3)).grown hgrow (by have := hB.size; simp; omega) (fun k e => (hown.lt k e).1)
          have ho2 : w1.ownsRow w.heap.size 3 1 v' (ptrN xs (j + 1)).length ((ptrN xs (j + 1)).map (Value.int .i64)) := by
            rw [HE.out]; simpa using hown'
          clear hown' hgrow hown hB hP
          go_wp2
          go_roundw
          case rel => exact ⟨j + 1, by omega, by go_num, ho2, hB1⟩
          case measure => simp [intOf]; omega
    · obtain rfl : j = xs.length := by omega
      go_wp2
      go_ret
      exact ⟨_, rfl, hB, hown⟩

theorem Pointers_any (at_ rg k t n : Int) (arr : Bool) (ka : Option Addr) (ks : List Int) (kc : Nat) (va : Option Addr) (vs : List Int) (vc : Nat) (w : World) (hT : Tab w) (hR : Reads .i64 w ka ks) (hn : ks.length ≤ 100) :
    Calls Tryd.prog 16 #[.agg #[.int .i64 at_, .int .i64 rg, .bool arr, .int .i64 k, .int .i64 t, .int .i64 n, .slice ka ks.length kc, .slice va vs.length vc]] w fun e w' => ∃ a c, e = .returned (.slice a (ptrN ks ks.length).length c) ∧ Below w.heap.size w w' ∧ Reads .i64 w' a (ptrN ks ks.length) := by
  have hbo : Below w.heap.size w (w.alloc (.cells #[.int .i64 at_, .int .i64 rg, .bool arr, .int .i64 k, .int .i64 t, .int .i64 n, .slice ka ks.length kc, .slice va vs.length vc] 27)) := (Below.refl _ _).alloc (Nat.le_refl _) _
  have hp := places_any ka ks kc _ (hT.below hT.lt hbo) (hR.below hbo) hn
  have HO := Lib.hid hbo
  clear hR hT hbo
  go_enter Tryd.func16, Tryd.ntmps16
  go_wp2_with fail
  refine hp.mono ?_
  rintro e w1 ⟨v, rfl, hb1, ho⟩
  obtain ⟨a, c, rfl, hr, _⟩ := owns_reads ho
  clear ho
  go_wp2
  go_ret
  exact ⟨_, _, rfl, HO.out.trans (hb1.mono HO.out.size), hr⟩

set_option maxHeartbeats 4000000 in
theorem rPointers_any (at_ rg k t n : Int) (arr : Bool) (ka : Option Addr) (ks : List Int) (kc : Nat) (va : Option Addr) (vs : List Int) (vc : Nat) (w : World) (hR : Reads .i64 w ka ks) (hn : ks.length ≤ 100) :
    Calls Tryd.prog 17 #[.agg #[.int .i64 at_, .int .i64 rg, .bool arr, .int .i64 k, .int .i64 t, .int .i64 n, .slice ka ks.length kc, .slice va vs.length vc]] w fun e w' => ∃ a c, e = .returned (.slice a (ptrN ks ks.length).length c) ∧ Below w.heap.size w w' ∧ Reads .i64 w' a (ptrN ks ks.length) := by
  obtain ⟨i0, hi, hz0, hz1, hz2⟩ := info_parts info_int
  have hO0 := heap_alloc_eq w (.cells #[.int .i64 at_, .int .i64 rg, .bool arr, .int .i64 k, .int .i64 t, .int .i64 n, .slice ka ks.length kc, .slice va vs.length vc] 27)
  have HR := Lib.hid hR
  clear hR
  have HO0 := Lib.hid hO0
  clear hO0
  go_enter Tryd.func17, Tryd.ntmps17
  go_wp2
  go_loopw [3, 4] (fun v i wr => ∃ j : Nat, j ≤ ks.length ∧ i = .int .i64 j ∧ wr.ownsRow (w.heap.size + 1) 3 1 v (ptrN ks j).length ((ptrN ks j).map (Value.int .i64)) ∧ Below w.heap.size w wr ∧ wr.heap[w.heap.size]? = some (.cells #[.int .i64 at_, .int .i64 rg, .bool arr, .int .i64 k, .int .i64 t, .int .i64 n, .slice ka ks.length kc, .slice va vs.length vc] 27 (0, 0))) (fun _ i _ => ks.length - (intOf i).toNat)
  case atStart => exact ⟨0, Nat.zero_le _, rfl, by have h := World.ownsRow_made (base := w.heap.size + 1) (e := 3) (size := 1) (w.alloc (.cells #[.int .i64 at_, .int .i64 rg, .bool arr, .int .i64 k, .int .i64 t, .int .i64 n, .slice ka ks.length kc, .slice va vs.length vc] 27)) #[] 0 (by simp) (by decide) rfl; simp only [World.size_alloc] at h; exact h, ((Below.refl _ _).alloc (Nat.le_refl _) _).alloc (by simp) _, heap_alloc_lt HO0.out _⟩
  case round =>
    obtain ⟨j, hj, rfl, hown, hB, hO⟩ := hrel
    have hle := ptrN_le ks j
    have a3 := heap_cell hO 6
    simp at a3
    have HO := Lib.hid hO
    clear hO
    have hsz := heap_lt HO.out
    by_cases hlt : j < ks.length
    · obtain ⟨b, off, rfl, hc⟩ := (HR.out.below hB).at_ j hlt
      obtain ⟨x, hx⟩ : ∃ x, (ks[j]?).getD 0 = x := ⟨_, rfl⟩
      rw [hx] at hc
      have HP : Hid (ptrN ks (j + 1) = if isPtr x = true then ptrN ks j ++ [(j : Int)] else ptrN ks j) := by
        show _ = _
        rw [ptrN, hx]
      clear hx
      cases hp : isPtr x
      · have e9 : ptrN ks (j + 1) = ptrN ks j := by rw [HP.out, hp]; rfl
        have HE := Lib.hid e9
        have b1 : (x == 1) = false := by rw [beq_eq_false_iff_ne]; rintro rfl; cases hp
        have b2 : (x == 2) = false := by rw [beq_eq_false_iff_ne]; rintro rfl; cases hp
        have b3 : (x == 3) = false := by rw [beq_eq_false_iff_ne]; rintro rfl; cases hp
        clear hp e9
        go_wp2
        go_roundw
        case rel => exact ⟨j + 1, by omega, by go_num, by rw [HE.out]; exact hown, hB, HO.out⟩
        case measure => simp [intOf]; omega
      · have e9 : ptrN ks (j + 1) = ptrN ks j ++ [(j : Int)] := by rw [HP.out, hp]; rfl
        have HE := Lib.hid e9
        rcases (show x = 1 ∨ x = 2 ∨ x = 3 by simp [isPtr] at hp; omega) with rfl | rfl | rfl
        all_goals
          clear hp e9 HP
          go_wp2_with (at_builtin; refine wpList_append_own _ rfl _ _ 25 rfl (w.heap.size + 1) 3 i0 (.int .i64 0) 1 8 Tryd.underlying25 hi hz0 hz1 hz2 rfl (by decide) _ _ _ rfl (hown.alloc _) ⟨wr.heap.size, 0, none⟩ 1 1 [.int .i64 j] rfl rfl (by
            intro q u hq
            match q, hq with
            | 0, hq => simp at hq; subst hq; simp [Addr.add]) (by intro u hu; simp at hu; subst hu; rfl) (by unfold maxLen; omega) (by omega) (by simp; omega) ?_; intro v' w1 hown' hgrow _)
          have hB1 := (hB.alloc hB.size (.cells #[.int .i64 j] 3)).grown hgrow (by have := hB.size; simp; omega) (fun k e => by have := (hown.lt k e).1; omega)
          have ho2 : w1.ownsRow (w.heap.size + 1) 3 1 v' (ptrN ks (j + 1)).length ((ptrN ks (j + 1)).map (Value.int .i64)) := by
            rw [HE.out]; simpa using hown'
          have hO1 := (hgrow.block w.heap.size (by simp; omega) (fun e => by have := (hown.lt _ e.symm).1; omega)).trans (heap_alloc_lt HO.out _)
          clear hown' hgrow hown hB a3
          go_wp2
          go_roundw
          case rel => exact ⟨j + 1, by omega, by go_num, ho2, hB1, hO1⟩
          case measure => simp [intOf]; omega
    · obtain rfl : j = ks.length := by omega
      obtain ⟨a, c, rfl, hr, _⟩ := owns_reads hown
      clear hown
      go_wp2
      go_ret
      exact ⟨_, _, rfl, hB, hr⟩
end Go.Proofs.YtekkplledcffkaaDoor
