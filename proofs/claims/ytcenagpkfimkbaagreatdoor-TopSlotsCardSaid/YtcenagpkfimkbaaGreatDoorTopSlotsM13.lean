/-
  Contracts of functions of the program, laid together.
-/
import Derived.Test.YtcenagpkfimkbaaGreatDoorTopSlotsM2
import Derived.Deep.RegionHeld3
import Derived.StillTailTactics
namespace Go.Proofs.YtcenagpkfimkbaaGreatDoor
open Go Go.RowKit

def markL (xs : List Bool) (f k : Nat) (on : Bool) : List Bool := xs.take f ++ (List.replicate k on ++ xs.drop (f + k))
def markX (xs : List Bool) (f k : Int) (on : Bool) : List Bool := if hasB xs.length f k = true then markL xs f.toNat k.toNat on else xs
def markE (n : Nat) (f k : Int) : Int := if hasB n f k = true then 0 else 8

theorem wrap_pow (m : Nat) (hm : m < 64) : IntKind.u64.wrap (2 ^ m) = ((2 ^ m : Nat) : Int) := by
  have h : 2 ^ m < 2 ^ 64 := Nat.pow_lt_pow_right (by omega) hm
  obtain ⟨y, hy⟩ : ∃ y, 2 ^ m = y := ⟨_, rfl⟩
  have e : ((2 : Int) ^ m) = (y : Int) := by rw [← hy]; push_cast; rfl
  rw [e, hy]
  rw [hy] at h
  rw [IntKind.wrap_u64]
  omega
theorem clear_bit (v m : Nat) (hv : v < 2 ^ 64) (hm : m < 64) : ∃ v1 : Nat, bits .andNot .u64 (v : Int) (IntKind.u64.wrap (2 ^ m)) = (v1 : Int) ∧ v1 < 2 ^ 64 ∧ ∀ i, i < 64 → v1.testBit i = (v.testBit i && !decide (i = m)) := by
  have h : 2 ^ m < 2 ^ 64 := Nat.pow_lt_pow_right (by omega) hm
  refine ⟨v &&& (18446744073709551615 - 2 ^ m), ?_, Nat.lt_of_le_of_lt Nat.and_le_left hv, fun i hi => ?_⟩
  · rw [wrap_pow m hm]
    exact u64_andNot_nat v (2 ^ m) (by omega) (by omega)
  · rw [Nat.testBit_and, show 18446744073709551615 - 2 ^ m = 2 ^ 64 - (2 ^ m + 1) by omega, Nat.testBit_two_pow_sub_succ h, Nat.testBit_two_pow]
    congr 1
    simp [hi]
    by_cases e : i = m
    · simp [e]
    · simp [e]; omega
theorem set_bit (v m : Nat) (hv : v < 2 ^ 64) (hm : m < 64) : ∃ v1 : Nat, bits .or .u64 (v : Int) (IntKind.u64.wrap (2 ^ m)) = (v1 : Int) ∧ v1 < 2 ^ 64 ∧ ∀ i, i < 64 → v1.testBit i = (v.testBit i || decide (i = m)) := by
  have h : 2 ^ m < 2 ^ 64 := Nat.pow_lt_pow_right (by omega) hm
  refine ⟨v ||| 2 ^ m, ?_, Nat.or_lt_two_pow hv h, fun i hi => ?_⟩
  · rw [wrap_pow m hm]
    obtain ⟨y, hy⟩ : ∃ y, 2 ^ m = y := ⟨_, rfl⟩
    rw [hy] at h ⊢
    have := u64_or (v : Int) (y : Int) (by omega) (by omega) (by omega) (by omega)
    simpa using this
  · rw [Nat.testBit_or, Nat.testBit_two_pow]
    congr 1
    by_cases e : i = m
    · simp [e]
    · simp [e]; omega
theorem BitsOf.set {ws : List Int} {xs : List Bool} (h : BitsOf ws xs) (q : Nat) (hq : q < xs.length) (on : Bool) (v v' : Nat) (hv : ws[q / 64]? = some (v : Int)) (hv' : v' < 2 ^ 64) (ht : ∀ i, i < 64 → v'.testBit i = if i = q % 64 then on else v.testBit i) :
    BitsOf (ws.set (q / 64) (v' : Int)) (xs.set q on) := by
  obtain ⟨hl, hb⟩ := h
  refine ⟨by simpa using hl, fun j hj => ?_⟩
  rw [List.length_set] at hj
  by_cases e : j = q / 64
  · subst e
    refine ⟨v', by simp [hj], hv', fun i hi => ?_⟩
    obtain ⟨u, hu, _, hu3⟩ := hb _ hj
    rw [hv] at hu
    obtain rfl : v = u := by simp at hu; omega
    rw [ht i hi]
    by_cases e2 : i = q % 64
    · subst e2
      rw [if_pos rfl, show 64 * (q / 64) + q % 64 = q by omega]
      simp [hq]
    · rw [if_neg e2, hu3 i hi]
      have : q ≠ 64 * (q / 64) + i := by omega
      simp [this]
  · obtain ⟨u, hu, hu2, hu3⟩ := hb j hj
    refine ⟨u, by rw [List.getElem?_set_ne (fun h => e h.symm)]; exact hu, hu2, fun i hi => ?_⟩
    rw [hu3 i hi]
    have : q ≠ 64 * j + i := by omega
    simp [this]
theorem markL_zero (xs : List Bool) (f : Nat) (on : Bool) : markL xs f 0 on = xs := by simp [markL]
theorem markL_len (xs : List Bool) (f k : Nat) (on : Bool) (h : f + k ≤ xs.length) : (markL xs f k on).length = xs.length := by simp [markL]; omega
theorem markL_succ (xs : List Bool) (f j : Nat) (on : Bool) (h : f + j < xs.length) : (markL xs f j on).set (f + j) on = markL xs f (j + 1) on := by
  apply List.ext_getElem?
  intro i
  simp only [markL, List.getElem?_set, List.length_append, List.length_take, List.length_replicate, List.length_drop, List.getElem?_append, List.getElem?_take, List.getElem?_replicate, List.getElem?_drop]
  repeat' split
  all_goals first | rfl | omega | (congr 1; omega) | skip
theorem mset (w : World) (g i : Nat) (v : Value) : Moved (fun q => q = g) w (w.setCell ⟨g, i, none⟩ v).drew :=
  (Moved.of_set (S := fun q => q = g) w g i v rfl).trans (Moved.drew (fun q => q = g) _) (fun _ e => .inl e)
def RowW (w : World) (b g : Nat) (ws : List Int) (xs : List Bool) : Prop :=
  BitsOf ws xs ∧ w.heap[b]? = some (.cells #[.slice (some ⟨g, 0, none⟩) ws.length ws.length, .int .i64 xs.length] 231 (0, 0)) ∧ w.heap[g]? = some (.cells (u64s ws) 34 (0, 0)) ∧ xs.length ≤ 16384
theorem RowW.row {w : World} {b g : Nat} {ws : List Int} {xs : List Bool} (h : RowW w b g ws xs) : RowAt w b g xs := ⟨ws, h⟩
theorem RowW.set {w : World} {b g : Nat} {ws : List Int} {xs : List Bool} (h : RowW w b g ws xs) (q : Nat) (hq : q < xs.length) (on : Bool) (v v' : Nat) (hv : ws[q / 64]? = some (v : Int)) (hv' : v' < 2 ^ 64) (ht : ∀ i, i < 64 → v'.testBit i = if i = q % 64 then on else v.testBit i) : RowW (w.setCell ⟨g, q / 64, none⟩ (.int .u64 (v' : Int))) b g (ws.set (q / 64) (v' : Int)) (xs.set q on) := by
  have hne := h.row.ne
  obtain ⟨h0, h1, h2, h3⟩ := h
  refine ⟨h0.set q hq on v v' hv hv' ht, ?_, ?_, by simpa using h3⟩
  · rw [heap_set_ne hne]; simpa using h1
  · rw [heap_set h2]; simp [u64s, List.map_set]
theorem RowW.moved {w w' : World} {b g : Nat} {ws : List Int} {xs : List Bool} {T : Nat → Prop} (h : RowW w b g ws xs) (hm : Moved T w w') (hb : ¬ T b) (hg : ¬ T g) : RowW w' b g ws xs :=
  ⟨h.1, hm.heap h.2.1 hb, hm.heap h.2.2.1 hg, h.2.2.2⟩
theorem RowW.drew {w : World} {b g : Nat} {ws : List Int} {xs : List Bool} (h : RowW w b g ws xs) : RowW w.drew b g ws xs := h

set_option maxRecDepth 100000 in
set_option maxHeartbeats 1000000 in
theorem bMark_any (b g : Nat) (xs : List Bool) (f k : Int) (on : Bool) (w : World) (h : RowAt w b g xs) :
    Calls Tryz.prog 158 #[.pointer (some ⟨b, 0, none⟩), .agg #[.int .i64 f, .int .i64 k], .bool on] w fun e w' => e = .returned (.int .i64 (markE xs.length f k)) ∧ Moved (fun q => q = g) w w' ∧ RowAt w' b g (markX xs f k on) := by
  have H := Lib.hid h
  have hbA : Below w.heap.size w (w.alloc (.cells #[.int .i64 f, .int .i64 k] 160)) := (Below.refl _ _).alloc (Nat.le_refl _) _
  have hH := bfits_any b g xs f k _ (h.later hbA)
  clear h
  by_cases hB : hasB xs.length f k = true
  · have e1 : Hid (markE xs.length f k = 0) := Lib.hid (by rw [markE, if_pos hB])
    have e2 : Hid (markX xs f k on = markL xs f.toNat k.toNat on) := Lib.hid (by rw [markX, if_pos hB])
    rw [hB] at hH
    obtain ⟨h0, h1, h2, h3⟩ : 0 ≤ f ∧ 0 ≤ k ∧ f ≤ xs.length ∧ k ≤ xs.length - f := by simpa [hasB] using hB
    obtain ⟨f, rfl⟩ := Int.eq_ofNat_of_zero_le h0
    obtain ⟨k, rfl⟩ := Int.eq_ofNat_of_zero_le h1
    simp only [Int.toNat_natCast] at e2
    have hn : xs.length ≤ 16384 := by obtain ⟨_, _, _, _, h⟩ := H.out; exact h
    have hfk : f + k ≤ xs.length := by omega
    have HB := Lib.hid hbA
    have HBx := Lib.hid (heap_alloc_eq w (.cells #[.int .i64 f, .int .i64 k] 160))
    clear hB hbA h0 h1 h2 h3
    go_enter Tryz.func158, Tryz.ntmps158
    go_wp2_with fail
    refine hH.mono ?_
    rintro e w1 ⟨rfl, hb1⟩
    have HX := Lib.hid (heap_below hb1 HBx.out (heap_lt HBx.out))
    have HR := Lib.hid ((H.out.later HB.out).later hb1)
    have HM := Lib.hid ((Moved.of_below HB.out (fun q => q = g)).trans (Moved.of_below hb1 (fun q => q = g)) (fun q e => .inl e))
    clear hb1 hH
    have hx0 := heap_cell HX.out 0
    simp only [List.getElem?_toArray, List.getElem?_cons_zero] at hx0
    go_wp2
    clear hx0
    have hneg : w.heap.size ≠ g := by obtain ⟨_, _, _, h, _⟩ := H.out; have := heap_lt h; omega
    go_loopw [7] (fun a wr => ∃ j : Nat, j ≤ k ∧ a = .int .i64 ((f + j : Nat) : Int) ∧ Hid (RowAt wr b g (markL xs f j on) ∧ Moved (fun q => q = g) w wr ∧ wr.heap[w.heap.size]? = some (.cells #[.int .i64 f, .int .i64 k] 160 (0, 0)))) (fun a _ => f + k - (intOf a).toNat)
    case atStart => exact ⟨0, Nat.zero_le _, rfl, Lib.hid ⟨by rw [markL_zero]; exact HR.out, HM.out, HX.out⟩⟩
    case round =>
      obtain ⟨j, hj, rfl, HV⟩ := hrel
      have hx0 := heap_cell HV.out.2.2 0
      have hx1 := heap_cell HV.out.2.2 1
      simp only [List.getElem?_toArray, List.getElem?_cons_zero, List.getElem?_cons_succ] at hx0 hx1
      obtain ⟨q, hq⟩ : ∃ x, f + j = x := ⟨_, rfl⟩
      rw [hq]
      by_cases hlt : j < k
      · obtain ⟨ws, ⟨hl, hbt⟩, r1, r2, r3⟩ := HV.out.1
        have hml : (markL xs f j on).length = xs.length := markL_len _ _ _ _ (by omega)
        rw [hml] at hl
        have hqw : q / 64 < ws.length := by omega
        obtain ⟨v, hv, hv2, hv3⟩ := hbt (q / 64) hqw
        have c0 := heap_cell r1 0
        have c2 := heap_cell r2 (q / 64)
        have d2 := heap_free r2 (q / 64)
        simp [u64s, hv] at c0 c2
        obtain ⟨v1, E1, l1, t1⟩ := clear_bit v (q % 64) hv2 (by omega)
        obtain ⟨v2, E2, l2, t2⟩ := set_bit v1 (q % 64) l1 (by omega)
        have HA := Lib.hid (RowW.set (w := wr) (b := b) (g := g) ⟨⟨by rw [hml]; exact hl, hbt⟩, r1, r2, r3⟩ q (by rw [hml]; omega) false v v1 hv l1 (fun i hi => by rw [t1 i hi]; by_cases e : i = q % 64 <;> simp [e]))
        have HS := Lib.hid (HA.out.set q (by rw [List.length_set, hml]; omega) true v1 v2 (by simp [hqw]) l2 (fun i hi => by rw [t2 i hi]; by_cases e : i = q % 64 <;> simp [e]))
        obtain ⟨wl, hwl⟩ : ∃ x, ws.length = x := ⟨_, rfl⟩
        rw [hwl] at c0 hqw
        obtain ⟨d, hd⟩ : ∃ x, q / 64 = x := ⟨_, rfl⟩
        obtain ⟨m, hm⟩ : ∃ x, q % 64 = x := ⟨_, rfl⟩
        have i2 : (q : Int) < (f : Int) + (k : Int) := by omega
        have i4 : IntKind.i64.wrap ((q : Int) / 64) = (d : Int) := by rw [IntKind.wrap_i64]; omega
        have i5 : (q : Int).tmod 64 = (m : Int) := by rw [Int.tmod_eq_emod_of_nonneg (by omega)]; omega
        have i6 : (m : Int) < 64 := by omega
        have i7 : (0 : Int) ≤ (m : Int) := by omega
        rw [hd] at hqw c2 d2 HA HS
        rw [hm] at E1 E2
        have i0 : (0 : Int) ≤ (d : Int) := by omega
        have i1 : (d : Int) < (wl : Int) := by omega
        have i8 : (q : Int) + 1 ≤ 20000 := by omega
        have HQ := Lib.hid (And.intro hq (markL_succ xs f j on (by omega)))
        have HL := Lib.hid hwl
        clear hl hbt r1 r2 r3 hml hv hv2 hv3 hwl hq hd hm t1 t2 l1 l2
        cases on
        · go_wp2
          go_still_tail 13, (by kernel_rfl)
          change wpList _ _ _ _ _ wr.drew
          go_wp2
          go_roundw
          case rel =>
            refine ⟨j + 1, by omega, by rw [← HQ.out.1]; simp; omega, Lib.hid ⟨?_, ?_, ?_⟩⟩
            · have := HA.out.row
              rw [← HQ.out.1, HQ.out.2] at this
              exact this
            · exact HV.out.2.1.trans (mset wr g d _) (fun _ e => .inl e)
            · exact (Moved.of_set (S := fun q => q = g) wr g d _ rfl).heap HV.out.2.2 hneg
          case measure => simp [intOf]; omega
        · go_wp2
          go_still_tail 13, (by kernel_rfl)
          change wpList _ _ _ _ _ wr.drew
          go_wp2
          have hA := HA.out
          have c0' := heap_cell hA.2.1 0
          have c2' := heap_cell hA.2.2.1 d
          have d2' := heap_free hA.2.2.1 d
          have hlw : d < ws.length := by rw [HL.out]; exact hqw
          simp [u64s, hlw] at c0' c2'
          rw [HL.out] at c0'
          have hm2 : Moved (fun q => q = g) wr (wr.setCell ⟨g, d, none⟩ (.int .u64 (v1 : Int))).drew := mset wr g d _
          have c0'' : (wr.setCell ⟨g, d, none⟩ (.int .u64 (v1 : Int))).drew.cell? ⟨b, 0, none⟩ = some (.slice (some ⟨g, 0, none⟩) wl wl) := c0'
          have c2'' : (wr.setCell ⟨g, d, none⟩ (.int .u64 (v1 : Int))).drew.cell? ⟨g, d, none⟩ = some (.int .u64 v1) := c2'
          have d2'' : (wr.setCell ⟨g, d, none⟩ (.int .u64 (v1 : Int))).drew.frozen? ⟨g, d, none⟩ = false := d2'
          have HM2 := Lib.hid hm2
          clear hA c0' c2' d2' hlw hm2 c0 c2 d2 hx0 hx1
          generalize hW2 : World.drew _ = w2
          rw [hW2] at c0'' c2'' d2''
          have HW2 := Lib.hid hW2
          clear hW2
          go_still_tail 13, (by kernel_rfl)
          change wpList _ _ _ _ _ w2.drew
          go_wp2
          go_roundw
          case rel =>
            have hW2 := HW2.out
            subst hW2
            refine ⟨j + 1, by omega, by rw [← HQ.out.1]; simp; omega, Lib.hid ⟨?_, ?_, ?_⟩⟩
            · have := HS.out.row
              rw [List.set_set, ← HQ.out.1, HQ.out.2] at this
              exact this
            · exact (HV.out.2.1.trans HM2.out (fun _ e => .inl e)).trans (mset _ g d _) (fun _ e => .inl e)
            · exact (Moved.of_set (S := fun q => q = g) _ g d _ rfl).heap (HM2.out.heap HV.out.2.2 hneg) hneg
          case measure => simp [intOf]; omega
      · obtain rfl : j = k := by omega
        have i2 : ¬ (q : Int) < (f : Int) + (j : Int) := by omega
        have i9 : (f : Int) + (j : Int) ≤ 20000 := by omega
        go_wp2
        go_ret
        exact ⟨by rw [e1.out]; rfl, HV.out.2.1, by rw [e2.out]; exact HV.out.1⟩
  · have hB' : hasB xs.length f k = false := by simpa using hB
    have e1 : Hid (markE xs.length f k = 8) := Lib.hid (by rw [markE, if_neg hB])
    have e2 : Hid (markX xs f k on = xs) := Lib.hid (by rw [markX, if_neg hB])
    rw [hB'] at hH
    have HB := Lib.hid hbA
    clear hB hB' hbA
    go_enter Tryz.func158, Tryz.ntmps158
    go_wp2_with fail
    refine hH.mono ?_
    rintro e w1 ⟨rfl, hb1⟩
    go_wp2
    go_ret
    exact ⟨by rw [e1.out]; rfl, (Moved.of_below HB.out _).trans (Moved.of_below hb1 (fun q => q = g)) (fun q e => .inl e), by rw [e2.out]; exact (H.out.later HB.out).later hb1⟩
end Go.Proofs.YtcenagpkfimkbaaGreatDoor
namespace Go.Proofs.YtcenagpkfimkbaaGreatDoor
open Go Go.RowKit

theorem hasM_nat (xs : List Bool) (i : Nat) : hasM xs (i : Int) = xs.getD i false := by
  unfold hasM
  split
  · rfl
  · rw [List.getD_eq_getElem?_getD, List.getElem?_eq_none (by omega)]; rfl

def wholeM (xs : List Bool) (f k : Int) (on : Bool) : Bool := hasB xs.length f k && decide (∀ i, i < k.toNat → xs.getD (f.toNat + i) false = on)

set_option maxRecDepth 100000 in
set_option maxHeartbeats 1000000 in
theorem bWhole_any (b g : Nat) (xs : List Bool) (f k : Int) (on : Bool) (w : World) (h : RowAt w b g xs) :
    Calls Tryz.prog 188 #[.pointer (some ⟨b, 0, none⟩), .agg #[.int .i64 f, .int .i64 k], .bool on] w fun e w' => e = .returned (.bool (wholeM xs f k on)) ∧ Below w.heap.size w w' := by
  have H := Lib.hid h
  have hbA : Below w.heap.size w (w.alloc (.cells #[.int .i64 f, .int .i64 k] 160)) := (Below.refl _ _).alloc (Nat.le_refl _) _
  have hH := bfits_any b g xs f k _ (h.later hbA)
  clear h
  by_cases hB : hasB xs.length f k = true
  · rw [hB] at hH
    obtain ⟨h0, h1, h2, h3⟩ : 0 ≤ f ∧ 0 ≤ k ∧ f ≤ xs.length ∧ k ≤ xs.length - f := by simpa [hasB] using hB
    obtain ⟨f, rfl⟩ := Int.eq_ofNat_of_zero_le h0
    obtain ⟨k, rfl⟩ := Int.eq_ofNat_of_zero_le h1
    have hn : xs.length ≤ 16384 := by obtain ⟨_, _, _, _, h⟩ := H.out; exact h
    have hfk : f + k ≤ xs.length := by omega
    have hW : Hid (wholeM xs f k on = decide (∀ i, i < k → xs.getD (f + i) false = on)) := Lib.hid (by rw [wholeM, hB]; simp)
    have HB := Lib.hid hbA
    have HBx := Lib.hid (heap_alloc_eq w (.cells #[.int .i64 f, .int .i64 k] 160))
    clear hB hbA h0 h1 h2 h3
    go_enter Tryz.func188, Tryz.ntmps188
    go_wp2_with fail
    refine hH.mono ?_
    rintro e w1 ⟨rfl, hb1⟩
    have HX := Lib.hid (heap_below hb1 HBx.out (heap_lt HBx.out))
    have HR := Lib.hid ((H.out.later HB.out).later hb1)
    have HM := Lib.hid (HB.out.trans (hb1.mono HB.out.size))
    clear hb1 hH
    have hx0 := heap_cell HX.out 0
    have hx1 := heap_cell HX.out 1
    simp only [List.getElem?_toArray, List.getElem?_cons_zero, List.getElem?_cons_succ] at hx0 hx1
    go_wp2
    go_loopw [7] (fun a wr => ∃ j : Nat, j ≤ k ∧ a = .int .i64 ((f + j : Nat) : Int) ∧ wr = w1 ∧ Hid (∀ i, i < j → xs.getD (f + i) false = on)) (fun a _ => f + k - (intOf a).toNat)
    case atStart => exact ⟨0, Nat.zero_le _, rfl, rfl, Lib.hid (fun i hi => by omega)⟩
    case round =>
      obtain ⟨j, hj, rfl, rfl, HV⟩ := hrel
      obtain ⟨q, hq⟩ : ∃ x, f + j = x := ⟨_, rfl⟩
      rw [hq]
      by_cases hlt : j < k
      · have i2 : (q : Int) < (f : Int) + (k : Int) := by omega
        have i8 : (f : Int) + (k : Int) ≤ 20000 := by omega
        have hh := bHas_any b g xs q wr HR.out
        rw [hasM_nat] at hh
        obtain ⟨x, hx⟩ : ∃ x, xs.getD q false = x := ⟨_, rfl⟩
        rw [hx] at hh
        have HQ := Lib.hid (And.intro hq hx)
        clear hq hx
        go_wp2_with fail
        refine hh.mono ?_
        rintro e w2 ⟨rfl, rfl⟩
        clear hh
        by_cases hv : x = on
        · have e9 : (!x == on) = false := by rw [hv]; cases on <;> rfl
          have HV2 : Hid (∀ i, i < j + 1 → xs.getD (f + i) false = on) := Lib.hid fun i hi => by
            by_cases e : i = j
            · subst e; rw [HQ.out.1, HQ.out.2]; exact hv
            · exact HV.out i (by omega)
          clear hv
          go_wp2
          go_roundw
          case rel => exact ⟨j + 1, by omega, by rw [← HQ.out.1]; simp; omega, trivial, HV2⟩
          case measure => simp [intOf]; omega
        · have e9 : (!x == on) = true := by cases x <;> cases on <;> first | rfl | exact absurd rfl hv
          have HF : Hid (decide (∀ i, i < k → xs.getD (f + i) false = on) = false) := Lib.hid (by
            rw [decide_eq_false_iff_not]
            intro h
            have := h j hlt
            rw [HQ.out.1, HQ.out.2] at this
            exact hv this)
          clear hv
          go_wp2
          go_ret
          exact ⟨ret_bool (by rw [hW.out, HF.out]), HM.out⟩
      · obtain rfl : j = k := by omega
        have i2 : ¬ (q : Int) < (f : Int) + (j : Int) := by omega
        have i8 : (f : Int) + (j : Int) ≤ 20000 := by omega
        have HF : Hid (decide (∀ i, i < j → xs.getD (f + i) false = on) = true) := Lib.hid (by rw [decide_eq_true_iff]; exact HV.out)
        clear hq
        go_wp2
        go_ret
        exact ⟨ret_bool (by rw [hW.out, HF.out]), HM.out⟩
  · have hB' : hasB xs.length f k = false := by simpa using hB
    have e1 : Hid (wholeM xs f k on = false) := Lib.hid (by rw [wholeM, hB']; rfl)
    rw [hB'] at hH
    have HB := Lib.hid hbA
    clear hB hB' hbA
    go_enter Tryz.func188, Tryz.ntmps188
    go_wp2_with fail
    refine hH.mono ?_
    rintro e w1 ⟨rfl, hb1⟩
    go_wp2
    go_ret
    exact ⟨ret_bool e1.out.symm, HB.out.trans (hb1.mono HB.out.size)⟩

def nextM (xs : List Bool) (f : Int) : Option Nat := (List.range xs.length).find? fun i => decide (f ≤ i) && xs.getD i false
theorem nextM_some {xs : List Bool} {f : Int} {q : Nat} (hq : q < xs.length) (h1 : f ≤ q) (h2 : xs.getD q false = true) (h3 : ∀ i, i < q → f ≤ i → xs.getD i false = false) : nextM xs f = some q := by
  unfold nextM
  rw [List.find?_range_eq_some]
  refine ⟨by simp [h1]; simpa using h2, by simpa using hq, fun i hi => ?_⟩
  by_cases e : f ≤ (i : Int)
  · have := h3 i hi e
    simp [e]
    simpa using this
  · simp [e]
theorem nextM_none {xs : List Bool} {f : Int} (h3 : ∀ i, i < xs.length → f ≤ i → xs.getD i false = false) : nextM xs f = none := by
  unfold nextM
  rw [List.find?_range_eq_none]
  intro i hi
  by_cases e : f ≤ (i : Int)
  · have := h3 i hi e
    simp [e]
    simpa using this
  · simp [e]

set_option maxRecDepth 100000 in
set_option maxHeartbeats 1000000 in
theorem bNext_any (b g : Nat) (xs : List Bool) (f : Int) (w : World) (h : RowAt w b g xs) :
    Calls Tryz.prog 186 #[.pointer (some ⟨b, 0, none⟩), .int .i64 f] w fun e w' => e = .returned (.tuple #[.int .i64 ((nextM xs f).getD 0 : Nat), .bool (nextM xs f).isSome]) ∧ w = w' := by
  have H := Lib.hid h
  have hn : xs.length ≤ 16384 := by obtain ⟨_, _, _, _, h⟩ := h; exact h
  obtain ⟨n, hN⟩ : ∃ x, xs.length = x := ⟨_, rfl⟩
  have c1 : w.cell? ⟨b, 1, none⟩ = some (.int .i64 n) := by
    obtain ⟨_, _, h1, _, _⟩ := h
    have := heap_cell h1 1
    simpa [hN] using this
  rw [hN] at hn
  have HN := Lib.hid hN
  obtain ⟨s, hs⟩ : ∃ s : Nat, (s : Int) = max f 0 := ⟨(max f 0).toNat, by omega⟩
  have hs1 : (if f < 0 then (0 : Int) else f) = (s : Int) := by split <;> omega
  have hs2 : (if f ≤ 0 then (0 : Int) else f) = (s : Int) := by split <;> omega
  have HF := Lib.hid hs
  clear h hN hs
  go_enter Tryz.func186, Tryz.ntmps186
  go_wp2
  go_loopw [6] (fun a wr => ∃ q : Nat, s ≤ q ∧ (q ≤ n ∨ q = s) ∧ a = .int .i64 q ∧ wr = w ∧ Hid (∀ i, s ≤ i → i < q → xs.getD i false = false)) (fun a _ => n - (intOf a).toNat)
  case atStart => exact ⟨s, Nat.le_refl _, .inr rfl, rfl, rfl, Lib.hid (fun i h1 h2 => by omega)⟩
  case round =>
    obtain ⟨q, hq1, hq2, rfl, rfl, HV⟩ := hrel
    by_cases hlt : q < n
    · have i1 : (q : Int) < (n : Int) := by omega
      have hh := bHas_any b g xs q wr H.out
      rw [hasM_nat] at hh
      obtain ⟨x, hx⟩ : ∃ x, xs.getD q false = x := ⟨_, rfl⟩
      rw [hx] at hh
      have HX := Lib.hid hx
      clear hx hs1 hs2
      go_wp2_with fail
      refine hh.mono ?_
      rintro e w2 ⟨rfl, rfl⟩
      clear hh
      cases x
      · have HV2 : Hid (∀ i, s ≤ i → i < q + 1 → xs.getD i false = false) := Lib.hid fun i h1 h2 => by
          by_cases e : i = q
          · subst e; exact HX.out
          · exact HV.out i h1 (by omega)
        go_wp2
        go_roundw
        case rel => exact ⟨q + 1, by omega, .inl (by omega), by simp, trivial, HV2⟩
        case measure => simp [intOf]; omega
      · have HE : Hid (nextM xs f = some q) := Lib.hid (nextM_some (by rw [HN.out]; exact hlt) (by have := HF.out; omega) HX.out fun i h1 h2 => HV.out i (by have := HF.out; omega) h1)
        go_wp2
        go_ret2
        exact ⟨by rw [HE.out]; rfl, rfl⟩
    · have i1 : ¬ (q : Int) < (n : Int) := by omega
      have HE : Hid (nextM xs f = none) := Lib.hid (nextM_none fun i h1 h2 => HV.out i (by have := HF.out; omega) (by rw [HN.out] at h1; omega))
      clear hs1 hs2
      go_wp2
      go_ret2
      exact ⟨by rw [HE.out]; rfl, rfl⟩
end Go.Proofs.YtcenagpkfimkbaaGreatDoor
namespace Go.Proofs.YtcenagpkfimkbaaGreatDoor
open Go Go.RowKit

def Nw (w : World) : Prop := w.cell? ⟨0, 0, none⟩ = some (.int .i64 (-1)) ∧ w.cell? ⟨0, 1, none⟩ = some (.int .i64 16)
theorem Nw.lt {w : World} (h : Nw w) : 0 < w.heap.size := cell_lt h.1
theorem Nw.moved {w w' : World} {T : Nat → Prop} (h : Nw w) (hm : Moved T w w') (ht : ¬ T 0) : Nw w' := ⟨hm.cell h.1 ht, hm.cell h.2 ht⟩
theorem Nw.later {w w' : World} (h : Nw w) (hb : Below w.heap.size w w') : Nw w' := h.moved (Moved.of_below hb (fun _ => False)) id

def PlanAt (w : World) (b : Nat) (pg us : Int) : Prop := w.heap[b]? = some (.cells #[.int .i64 pg, .int .i64 us] 279 (0, 0)) ∧ 0 ≤ us ∧ us ≤ 16
theorem PlanAt.moved {w w' : World} {b : Nat} {pg us : Int} {T : Nat → Prop} (h : PlanAt w b pg us) (hm : Moved T w w') (ht : ¬ T b) : PlanAt w' b pg us := ⟨hm.heap h.1 ht, h.2⟩
theorem PlanAt.later {w w' : World} {b : Nat} {pg us : Int} (h : PlanAt w b pg us) (hb : Below w.heap.size w w') : PlanAt w' b pg us := h.moved (Moved.of_below hb (fun _ => False)) id

theorem plNew_any (w : World) (hN : Nw w) : Calls Tryz.prog 152 #[] w fun e w' => e = .returned (.pointer (some ⟨w.heap.size, 0, none⟩)) ∧ Below w.heap.size w w' ∧ PlanAt w' w.heap.size (-1) 16 := by
  obtain ⟨h0, h1⟩ := hN
  go_enter Tryz.func152, Tryz.ntmps152
  go_wp2
  go_ret
  exact ⟨rfl, (Below.refl _ _).alloc (Nat.le_refl _) _, heap_alloc_eq _ _, by omega, by omega⟩

theorem plLeft_any {b : Nat} {pg us : Int} {w : World} (h : PlanAt w b pg us) :
    Calls Tryz.prog 214 #[.pointer (some ⟨b, 0, none⟩)] w fun e w' => e = .returned (.int .i64 (16 - us)) ∧ w' = w := by
  have c1 := heap_cell h.1 1
  simp at c1
  obtain ⟨_, h0, h1⟩ := h
  go_enter Tryz.func214, Tryz.ntmps214
  go_wp2
  go_ret
  exact ⟨rfl, rfl⟩

def plN (pg us s : Int) : Int := if s < 1 ∨ 16384 < s then 0 else if 16 < s then (s + 15) / 16 else if ¬ (pg = -1 ∧ us = 16) ∧ s ≤ 16 - us then 0 else 1
def plE (s : Int) : Int := if s < 1 ∨ 16384 < s then 1 else 0

theorem run_neSpot (a b c d : Int) (w : World) : (binOp .neq 277 (.agg #[.int .i64 a, .int .i64 b]) (.agg #[.int .i64 c, .int .i64 d])).run Tryz.prog w = .ok (.bool (!decide (a = c ∧ b = d))) w := by
  by_cases h1 : a = c
  · by_cases h2 : b = d
    · simp [h1, h2, go_sem]
    · simp [h1, h2, go_sem]
  · simp [h1, go_sem]

set_option maxRecDepth 100000 in
set_option maxHeartbeats 1000000 in
theorem plNeed_any {b : Nat} {pg us : Int} {w : World} (h : PlanAt w b pg us) (hN : Nw w) (s : Int) :
    Calls Tryz.prog 190 #[.pointer (some ⟨b, 0, none⟩), .int .i64 s] w fun e w' => e = .returned (.tuple #[.int .i64 (plN pg us s), .int .i64 (plE s)]) ∧ ∃ q, w' = w.drewN q := by
  have hL : ∀ q, Calls Tryz.prog 214 #[.pointer (some ⟨b, 0, none⟩)] (w.drewN q) fun e w' => e = .returned (.int .i64 (16 - us)) ∧ w' = w.drewN q := fun q => plLeft_any (h.moved (Moved.drewN (fun _ => False) w q) id)
  have HL := Lib.hid hL
  have c0 := heap_cell h.1 0
  have c1 := heap_cell h.1 1
  simp at c0 c1
  obtain ⟨_, h0, h1⟩ := h
  obtain ⟨n0, n1⟩ := hN
  clear hL
  by_cases k1 : s < 1
  · have e1 : Hid (plN pg us s = 0) := Lib.hid (by rw [plN, if_pos (.inl k1)])
    have e2 : Hid (plE s = 1) := Lib.hid (by rw [plE, if_pos (.inl k1)])
    clear c0 c1 n0 n1
    go_enter Tryz.func190, Tryz.ntmps190
    go_wp2
    go_ret2
    exact ⟨by rw [e1.out, e2.out]; rfl, 0, rfl⟩
  by_cases k2 : 16384 < s
  · have e1 : Hid (plN pg us s = 0) := Lib.hid (by rw [plN, if_pos (.inr k2)])
    have e2 : Hid (plE s = 1) := Lib.hid (by rw [plE, if_pos (.inr k2)])
    clear c0 c1 n0 n1
    go_enter Tryz.func190, Tryz.ntmps190
    go_wp2
    go_ret2
    exact ⟨by rw [e1.out, e2.out]; rfl, 0, rfl⟩
  have e2 : Hid (plE s = 0) := Lib.hid (by rw [plE, if_neg (by omega)])
  by_cases k3 : 16 < s
  · have e1 : Hid (plN pg us s = (s + 15) / 16) := Lib.hid (by rw [plN, if_neg (by omega), if_pos k3])
    have y1 : s + 16 - 1 = s + 15 := by omega
    clear c0 c1 n0 n1
    go_enter Tryz.func190, Tryz.ntmps190
    go_wp2
    go_ret2
    exact ⟨by rw [e1.out, e2.out]; rfl, 0, rfl⟩
  have hne := fun w => run_neSpot pg us (-1) 16 w
  by_cases k4 : pg = -1 ∧ us = 16
  · have e1 : Hid (plN pg us s = 1) := Lib.hid (by rw [plN, if_neg (by omega), if_neg k3, if_neg (fun h => h.1 k4)])
    simp only [k4, and_self, decide_true, Bool.not_true] at hne
    obtain ⟨rfl, rfl⟩ := k4
    go_enter Tryz.func190, Tryz.ntmps190
    go_wp2
    go_quiet (fail)
    go_wp2
    go_ret2
    exact ⟨by rw [e1.out, e2.out]; rfl, _, rfl⟩
  · simp only [k4, decide_false, Bool.not_false] at hne
    by_cases k5 : s ≤ 16 - us
    · have e1 : Hid (plN pg us s = 0) := Lib.hid (by rw [plN, if_neg (by omega), if_neg k3, if_pos ⟨k4, k5⟩])
      clear k4
      go_enter Tryz.func190, Tryz.ntmps190
      go_wp2
      go_quiet ((go_at_call 214; exact Calls.quiet_of_same (HL.out _)))
      go_wp2
      go_ret2
      exact ⟨by rw [e1.out, e2.out]; rfl, _, rfl⟩
    · have e1 : Hid (plN pg us s = 1) := Lib.hid (by rw [plN, if_neg (by omega), if_neg k3, if_neg (fun h => k5 h.2)])
      clear k4
      go_enter Tryz.func190, Tryz.ntmps190
      go_wp2
      go_quiet ((go_at_call 214; exact Calls.quiet_of_same (HL.out _)))
      go_wp2
      go_ret2
      exact ⟨by rw [e1.out, e2.out]; rfl, _, rfl⟩
end Go.Proofs.YtcenagpkfimkbaaGreatDoor
namespace Go.Proofs.YtcenagpkfimkbaaGreatDoor
open Go Go.RowKit

def plA (pg us s page : Int) : Int := if 16 < s then page * 16 else if plN pg us s = 0 then pg * 16 + us else page * 16
def plP (pg us s page : Int) : Int := if 16 < s then pg else if plN pg us s = 0 then pg else page
def plU (pg us s : Int) : Int := if 16 < s then us else if plN pg us s = 0 then us + s else s

theorem plN_pos {pg us s : Int} (h1 : 1 ≤ s) (h2 : s ≤ 16384) (h3 : 16 < s) : plN pg us s = (s + 15) / 16 := by rw [plN, if_neg (by omega), if_pos h3]
theorem plN_small {pg us s : Int} (h1 : 1 ≤ s) (h3 : ¬ 16 < s) : plN pg us s = 0 ∨ plN pg us s = 1 := by
  rw [plN, if_neg (by omega), if_neg h3]
  split
  · exact .inl rfl
  · exact .inr rfl
theorem plN_fit {pg us s : Int} (h1 : 1 ≤ s) (h3 : ¬ 16 < s) (h : plN pg us s = 0) : s ≤ 16 - us := by
  rw [plN, if_neg (by omega), if_neg h3] at h
  split at h
  · rename_i h'; exact h'.2
  · cases h

set_option maxRecDepth 100000 in
set_option maxHeartbeats 1000000 in
theorem plPlace_any {b : Nat} {pg us : Int} {w : World} (h : PlanAt w b pg us) (hN : Nw w) (hg0 : -1 ≤ pg) (hg1 : pg ≤ 1024) (s page : Int) (s0 : 1 ≤ s) (s1 : s ≤ 16384) (p0 : 0 ≤ page) (p1 : page ≤ 1024) :
    Calls Tryz.prog 192 #[.pointer (some ⟨b, 0, none⟩), .int .i64 s, .int .i64 page] w fun e w' => e = .returned (.tuple #[.int .i64 (plA pg us s page), .int .i64 0]) ∧ Moved (fun q => q = b) w w' ∧ PlanAt w' b (plP pg us s page) (plU pg us s) := by
  have hD := plNeed_any h hN s
  have e0 : plE s = 0 := by rw [plE, if_neg (by omega)]
  rw [e0] at hD
  have H := Lib.hid h
  by_cases k3 : 16 < s
  · have e1 : Hid (plA pg us s page = page * 16) := Lib.hid (by rw [plA, if_pos k3])
    have e2 : Hid (plP pg us s page = pg ∧ plU pg us s = us) := Lib.hid (by rw [plP, plU, if_pos k3, if_pos k3]; exact ⟨rfl, rfl⟩)
    rw [plN_pos s0 s1 k3] at hD
    have y1 : 0 < (s + 15) / 16 := by omega
    obtain ⟨n, hn⟩ : ∃ n, (s + 15) / 16 = n := ⟨_, rfl⟩
    rw [hn] at hD y1
    clear h e0 hn
    go_enter Tryz.func192, Tryz.ntmps192
    go_wp2_with fail
    refine hD.mono ?_
    rintro e w1 ⟨rfl, q, rfl⟩
    clear hD
    go_wp2
    go_ret2
    exact ⟨by rw [e1.out]; rfl, Moved.drewN _ _ _, by rw [e2.out.1, e2.out.2]; exact H.out.moved (Moved.drewN (fun _ => False) w q) id⟩
  rcases plN_small (pg := pg) (us := us) s0 k3 with hz | hz
  · have hfit := plN_fit s0 k3 hz
    have e1 : Hid (plA pg us s page = pg * 16 + us) := Lib.hid (by rw [plA, if_neg k3, if_pos hz])
    have e2 : Hid (plP pg us s page = pg ∧ plU pg us s = us + s) := Lib.hid (by rw [plP, plU, if_neg k3, if_neg k3, if_pos hz, if_pos hz]; exact ⟨rfl, rfl⟩)
    rw [hz] at hD
    obtain ⟨hb, hu0, hu1⟩ := h
    have y1 : IntKind.i64.wrap (pg * 16) = pg * 16 := by rw [IntKind.wrap_i64]; omega
    have y2 : IntKind.i64.wrap (pg * 16 + us) = pg * 16 + us := by rw [IntKind.wrap_i64]; omega
    have y3 : IntKind.i64.wrap (us + s) = us + s := by rw [IntKind.wrap_i64]; omega
    clear e0 hz
    go_enter Tryz.func192, Tryz.ntmps192
    go_wp2_with fail
    refine hD.mono ?_
    rintro e w1 ⟨rfl, q, hq⟩
    have hb1 : w1.heap[b]? = some (.cells #[.int .i64 pg, .int .i64 us] 279 (0, 0)) := by rw [hq]; exact hb
    have c0 := heap_cell hb1 0
    have c1 := heap_cell hb1 1
    have d1 := heap_free hb1 1
    simp only [List.getElem?_toArray, List.getElem?_cons_zero, List.getElem?_cons_succ] at c0 c1
    have HQ := Lib.hid (And.intro hq hb1)
    clear hD hb1 hb hq
    go_wp2
    go_quiet (fail)
    go_wp2
    go_ret2
    have hm : Moved (fun q => q = b) w ((w1.drewN nq).setCell ⟨b, 1, none⟩ (.int .i64 (us + s))) := by
      rw [HQ.out.1]
      exact ((Moved.drewN _ _ _).trans (Moved.drewN (fun q => q = b) _ _) (fun _ e => .inl e)).trans (Moved.of_set (S := fun q => q = b) _ b 1 _ rfl) (fun _ e => .inl e)
    refine ⟨by rw [e1.out]; rfl, hm, ?_⟩
    rw [e2.out.1, e2.out.2]
    have h9 : (w1.drewN nq).heap[b]? = some (.cells #[.int .i64 pg, .int .i64 us] 279 (0, 0)) := HQ.out.2
    exact ⟨by simpa using heap_set h9 1 (.int .i64 (us + s)), by omega, by omega⟩
  · have e1 : Hid (plA pg us s page = page * 16) := Lib.hid (by rw [plA, if_neg k3, if_neg (by omega)])
    have e2 : Hid (plP pg us s page = page ∧ plU pg us s = s) := Lib.hid (by rw [plP, plU, if_neg k3, if_neg k3, if_neg (by omega), if_neg (by omega)]; exact ⟨rfl, rfl⟩)
    rw [hz] at hD
    obtain ⟨hb, hu0, hu1⟩ := h
    have y1 : IntKind.i64.wrap (page * 16) = page * 16 := by rw [IntKind.wrap_i64]; omega
    have k4 : s ≤ 16 := by omega
    clear e0 hz
    go_enter Tryz.func192, Tryz.ntmps192
    go_wp2_with fail
    refine hD.mono ?_
    rintro e w1 ⟨rfl, q, hq⟩
    have hb1 : w1.heap[b]? = some (.cells #[.int .i64 pg, .int .i64 us] 279 (0, 0)) := by rw [hq]; exact hb
    have c0 := heap_cell hb1 0
    have c1 := heap_cell hb1 1
    have d0 := heap_free hb1 0
    have d1 := heap_free hb1 1
    simp only [List.getElem?_toArray, List.getElem?_cons_zero, List.getElem?_cons_succ] at c0 c1
    have HQ := Lib.hid (And.intro hq hb1)
    clear hD hb1 hb hq
    go_wp2
    have hb2 : ((w1.setCell ⟨b, 0, none⟩ (.int .i64 page)).setCell ⟨b, 1, none⟩ (.int .i64 0)).heap[b]? = some (.cells #[.int .i64 page, .int .i64 0] 279 (0, 0)) := by
      simpa using heap_set (heap_set HQ.out.2 0 (.int .i64 page)) 1 (.int .i64 0)
    have hm2 : Moved (fun q => q = b) w ((w1.setCell ⟨b, 0, none⟩ (.int .i64 page)).setCell ⟨b, 1, none⟩ (.int .i64 0)) := by
      rw [HQ.out.1]
      exact ((Moved.drewN _ _ _).trans (Moved.of_set (S := fun q => q = b) _ b 0 _ rfl) (fun _ e => .inl e)).trans (Moved.of_set (S := fun q => q = b) _ b 1 _ rfl) (fun _ e => .inl e)
    have HM := Lib.hid (And.intro hb2 hm2)
    clear hb2 hm2 c0 c1 d0 d1
    generalize hW2 : World.setCell (World.setCell _ _ _) _ _ = w2
    rw [hW2] at HM
    clear hW2
    have c0 := heap_cell HM.out.1 0
    have c1 := heap_cell HM.out.1 1
    have d1 := heap_free HM.out.1 1
    simp only [List.getElem?_toArray, List.getElem?_cons_zero, List.getElem?_cons_succ] at c0 c1
    go_quiet (fail)
    go_wp2
    go_ret2
    refine ⟨by rw [e1.out]; simp, (HM.out.2.trans (Moved.drewN (fun q => q = b) _ _) (fun _ e => .inl e)).trans (Moved.of_set (S := fun q => q = b) _ b 1 _ rfl) (fun _ e => .inl e), ?_⟩
    rw [e2.out.1, e2.out.2]
    have h9 : (w2.drewN nq).heap[b]? = some (.cells #[.int .i64 page, .int .i64 0] 279 (0, 0)) := HM.out.1
    exact ⟨by simpa using heap_set h9 1 (.int .i64 s), by omega, by omega⟩
end Go.Proofs.YtcenagpkfimkbaaGreatDoor
namespace Go.Proofs.YtcenagpkfimkbaaGreatDoor
open Go Go.RowKit

structure GlobAt (w : World) (b g : Nat) (vs : List Int) : Prop where
  blk : w.heap[b]? = some (.cells #[.slice (some ⟨g, 0, none⟩) vs.length vs.length] 167 (0, 0))
  row : w.heap[g]? = some (.cells (u64s vs) 34 (0, 0))
  len : vs.length ≤ 64
section
variable {w w' : World} {b g : Nat} {vs : List Int}
theorem GlobAt.moved {T : Nat → Prop} (h : GlobAt w b g vs) (hm : Moved T w w') (h1 : ¬ T b) (h2 : ¬ T g) : GlobAt w' b g vs := ⟨hm.heap h.blk h1, hm.heap h.row h2, h.len⟩
theorem GlobAt.later (h : GlobAt w b g vs) (hb : Below w.heap.size w w') : GlobAt w' b g vs := h.moved (Moved.of_below hb (fun _ => False)) id id
theorem GlobAt.ne (h : GlobAt w b g vs) : b ≠ g := by
  rintro rfl
  have := h.blk.symm.trans h.row
  simp at this
theorem GlobAt.reads (h : GlobAt w b g vs) : Reads .u64 w (some ⟨g, 0, none⟩) vs := by
  refine .inr ⟨g, 0, rfl, fun i hi => ?_⟩
  rw [heap_cell h.row]
  simp [hi]
end
def GlobP (b g : Nat) (vs : List Int) : HP := fun w S => GlobAt w b g vs ∧ ∀ k, S k ↔ k = b ∨ k = g
theorem GlobP.ok (b g : Nat) (vs : List Int) : (GlobP b g vs).Ok := by
  constructor
  · rintro w w' S T ⟨h, hs⟩ hm hd
    exact ⟨h.moved hm (hd _ ((hs _).2 (by simp))) (hd _ ((hs _).2 (by simp))), hs⟩
  · rintro w S ⟨h, hs⟩ k hk
    rcases (hs k).1 hk with rfl | rfl
    · exact heap_lt h.blk
    · exact heap_lt h.row

theorem gNew_any (n : Nat) (w : World) (hn : n ≤ 64) :
    Calls Tryz.prog 37 #[.int .i64 n] w fun e w' => e = .returned (.tuple #[.pointer (some ⟨w.heap.size + 1, 0, none⟩), .int .i64 0]) ∧ Below w.heap.size w w' ∧ GlobAt w' (w.heap.size + 1) w.heap.size (List.replicate n 0) := by
  have hmk := run_mk64 n (by omega)
  go_enter Tryz.func37, Tryz.ntmps37
  go_wp2
  go_ret2
  refine ⟨rfl, ((Below.refl _ _).alloc (Nat.le_refl _) _).alloc (by simp) _, ?_, ?_, by simpa using hn⟩
  · simpa using heap_alloc_eq (w.alloc (.cells (zrow n) 34)) (.cells #[.slice (some ⟨w.heap.size, 0, none⟩) n n] 167)
  · rw [← zrow_eq]
    exact heap_alloc_lt (heap_alloc_eq _ _) _
theorem gNew_bad (n : Int) (w : World) (h : n < 0 ∨ 64 < n) :
    Calls Tryz.prog 37 #[.int .i64 n] w fun e w' => e = .returned (.tuple #[.pointer none, .int .i64 1]) ∧ w = w' := by
  rcases h with h | h
  all_goals
    go_enter Tryz.func37, Tryz.ntmps37
    go_wp2
    go_ret2
    exact ⟨rfl, rfl⟩

def glV (vs : List Int) (i : Int) : Int := if i < vs.length then vs.getD i.toNat 0 else 0
def glE (vs : List Int) (i : Int) : Int := if i < vs.length then 0 else 8
def glS (vs : List Int) (i v : Int) : List Int := if i < vs.length then vs.set i.toNat v else vs

set_option maxRecDepth 100000 in
theorem gGet_any {w : World} {b g : Nat} {vs : List Int} (h : GlobAt w b g vs) (i : Int) (h0 : 0 ≤ i) (h1 : i ≤ 18446744073709551615) :
    Calls Tryz.prog 126 #[.pointer (some ⟨b, 0, none⟩), .int .u64 i] w fun e w' => e = .returned (.tuple #[.int .u64 (glV vs i), .int .i64 (glE vs i)]) ∧ w = w' := by
  have c0 := heap_cell h.blk 0
  simp at c0
  have hl := h.len
  have hw : IntKind.u64.wrap (vs.length : Int) = vs.length := by rw [IntKind.wrap_u64]; omega
  obtain ⟨i, rfl⟩ := Int.eq_ofNat_of_zero_le h0
  by_cases hi : i < vs.length
  · have c1 := heap_cell h.row i
    simp [u64s, hi] at c1
    have e1 : Hid (glV vs (i : Int) = vs[i]) := Lib.hid (by rw [glV, if_pos (by omega)]; simp [hi])
    have e2 : Hid (glE vs (i : Int) = 0) := Lib.hid (by rw [glE, if_pos (by omega)])
    obtain ⟨x, hx⟩ : ∃ x, vs[i] = x := ⟨_, rfl⟩
    rw [hx] at c1 e1
    obtain ⟨n, hn⟩ : ∃ n, vs.length = n := ⟨_, rfl⟩
    rw [hn] at c0 hl hw hi
    clear h hx hn
    go_enter Tryz.func126, Tryz.ntmps126
    go_wp2
    go_ret2
    exact ⟨by rw [e1.out, e2.out]; rfl, rfl⟩
  · have e1 : Hid (glV vs (i : Int) = 0) := Lib.hid (by rw [glV, if_neg (by omega)])
    have e2 : Hid (glE vs (i : Int) = 8) := Lib.hid (by rw [glE, if_neg (by omega)])
    obtain ⟨n, hn⟩ : ∃ n, vs.length = n := ⟨_, rfl⟩
    rw [hn] at c0 hl hw hi
    clear h hn
    go_enter Tryz.func126, Tryz.ntmps126
    go_wp2
    go_ret2
    exact ⟨by rw [e1.out, e2.out]; rfl, rfl⟩

set_option maxRecDepth 100000 in
theorem gSet_any {w : World} {b g : Nat} {vs : List Int} (h : GlobAt w b g vs) (i v : Int) (h0 : 0 ≤ i) (h1 : i ≤ 18446744073709551615) :
    Calls Tryz.prog 127 #[.pointer (some ⟨b, 0, none⟩), .int .u64 i, .int .u64 v] w fun e w' => e = .returned (.tuple #[.int .u64 (glV vs i), .int .i64 (glE vs i)]) ∧ Moved (fun q => q = g) w w' ∧ GlobAt w' b g (glS vs i v) := by
  have H := Lib.hid h
  have hG := gGet_any h i h0 h1
  have c0 := heap_cell h.blk 0
  simp at c0
  have hl := h.len
  obtain ⟨i, rfl⟩ := Int.eq_ofNat_of_zero_le h0
  by_cases hi : i < vs.length
  · have c1 := heap_cell h.row i
    have d1 := heap_free h.row i
    simp [u64s, hi] at c1
    have e2 : glE vs (i : Int) = 0 := by rw [glE, if_pos (by omega)]
    have e3 : Hid (glS vs (i : Int) v = vs.set i v) := Lib.hid (by rw [glS, if_pos (by omega), Int.toNat_natCast])
    rw [e2] at hG ⊢
    obtain ⟨x, hx⟩ : ∃ x, vs[i] = x := ⟨_, rfl⟩
    rw [hx] at c1
    obtain ⟨y, hy⟩ : ∃ y, glV vs (i : Int) = y := ⟨_, rfl⟩
    rw [hy] at hG ⊢
    obtain ⟨n, hn⟩ : ∃ n, vs.length = n := ⟨_, rfl⟩
    rw [hn] at c0 hl hi
    clear h hx hn hy e2
    go_enter Tryz.func127, Tryz.ntmps127
    go_wp2_with fail
    refine hG.mono ?_
    rintro e w1 ⟨rfl, rfl⟩
    clear hG
    go_wp2
    go_ret2
    refine ⟨rfl, Moved.of_set (S := fun q => q = g) w g i _ rfl, ?_⟩
    rw [e3.out]
    refine ⟨?_, ?_, by simpa using H.out.len⟩
    · rw [heap_set_ne H.out.ne]; simpa using H.out.blk
    · rw [heap_set H.out.row]; simp [u64s, List.map_set]
  · have e2 : glE vs (i : Int) = 8 := by rw [glE, if_neg (by omega)]
    have e3 : Hid (glS vs (i : Int) v = vs) := Lib.hid (by rw [glS, if_neg (by omega)])
    rw [e2] at hG ⊢
    obtain ⟨y, hy⟩ : ∃ y, glV vs (i : Int) = y := ⟨_, rfl⟩
    rw [hy] at hG ⊢
    clear h hy e2 c0
    go_enter Tryz.func127, Tryz.ntmps127
    go_wp2_with fail
    refine hG.mono ?_
    rintro e w1 ⟨rfl, rfl⟩
    clear hG
    go_wp2
    go_ret2
    exact ⟨rfl, Moved.refl _ _, by rw [e3.out]; exact H.out⟩
end Go.Proofs.YtcenagpkfimkbaaGreatDoor
namespace Go.Proofs.YtcenagpkfimkbaaGreatDoor
open Go Go.RowKit

def setTop (xss : List (List Int)) (i v : Int) : List (List Int) := match xss.getLast? with | none => [] | some l => xss.dropLast ++ [l.set i.toNat v]
theorem setTop_nil (i v : Int) : setTop [] i v = [] := rfl
theorem setTop_concat (xss : List (List Int)) (l : List Int) (i v : Int) : setTop (xss ++ [l]) i v = xss ++ [l.set i.toNat v] := by simp [setTop]

theorem sAll_any {sb : Nat} {xss : List (List Int)} {S : Nat → Prop} {w : World} (h : StackAt w sb xss S) :
    Calls Tryz.prog 34 #[.pointer (some ⟨sb, 0, none⟩)] w (RetOwn .u64 34 xss.flatten w) := by
  obtain ⟨sl, fr, h1, h2, _, _, _, _, _, h8, h9⟩ := h
  have hfl := flat_len h8
  obtain ⟨zs, hz⟩ : ∃ zs, xss.flatten = zs := ⟨_, rfl⟩
  rw [hz] at h2 hfl ⊢
  clear hz
  obtain ⟨a, cap, rfl, hc, hn, _⟩ := owns_slice h2
  have hr : Reads .u64 w a zs := by
    obtain ⟨a', cap', he, hr, _⟩ := owns_reads h2
    cases he
    exact hr
  have c0 := heap_cell h1 0
  simp at c0
  clear h1 h2
  go_enter Tryz.func34, Tryz.ntmps34
  go_wp2_with (go_at_call 91; refine (Clone_u64_any _ zs _ _ hr (by omega) (fun e => ⟨List.length_eq_zero_iff.1 (hn e).1, (hn e).2⟩)).mono ?_; rintro e w' ⟨v, rfl, hb, ho⟩)
  go_ret
  exact ⟨_, rfl, hb, ho⟩

theorem set_top_at {w : World} {sb : Nat} {yss : List (List Int)} {l : List Int} {S : Nat → Prop} (H : StackAt w sb (yss ++ [l]) S) (i : Nat) (v : Int) (_hi : i < l.length) (gb n cap : Nat) (fr0 : Value)
    (he : w.heap[sb]? = some (.cells #[.slice (some ⟨gb, 0, none⟩) n cap, fr0] 170 (0, 0))) :
    StackAt (w.setCell ⟨gb, yss.flatten.length + i, none⟩ (.int .u64 v)) sb (yss ++ [l.set i v]) S := by
  obtain ⟨sl, fr, h1, h2, h3, h4, h5, h6, h7, h8, h9⟩ := H
  rw [he] at h1
  simp only [Option.some.injEq, Obj.cells.injEq] at h1
  obtain ⟨h1, _, _⟩ := h1
  simp at h1
  obtain ⟨rfl, rfl⟩ := h1
  have hm : Moved (fun k => k = gb) w (w.setCell ⟨gb, yss.flatten.length + i, none⟩ (.int .u64 v)) := Moved.of_set w gb _ _ rfl
  have hs := h5 gb rfl
  have e1 : (yss ++ [l.set i v]).flatten = (yss ++ [l]).flatten.set (yss.flatten.length + i) v := by
    simp only [List.flatten_append, List.flatten_cons, List.flatten_nil, List.append_nil]
    rw [List.set_append_right _ _ (by omega), Nat.add_sub_cancel_left]
  obtain ⟨_, _, he', _⟩ := owns_slice h2
  simp only [Value.slice.injEq] at he'
  obtain ⟨_, hn9, _⟩ := he'
  subst hn9
  refine ⟨.slice (some ⟨gb, 0, none⟩) _ cap, fr0, hm.heap he (fun e => hs.2.1 e.symm), ?_, ?_, h4, h5, h6, fun k hk => Nat.lt_of_lt_of_le (h7 k hk) hm.size, ?_, ?_⟩
  · rw [e1, List.map_set, List.length_set]
    exact (h2.stored (yss.flatten.length + i) (.int .u64 v)).1
  · rw [offs_concat] at h3 ⊢
    simp only [List.length_append, List.length_singleton] at h3 ⊢
    exact hm.owns h3 (fun k hk e => hs.2.2 (by rw [hk, e]))
  · intro l' hl'
    rcases List.mem_append.1 hl' with h | h
    · exact h8 l' (by simp [h])
    · simp at h
      subst h
      rw [List.length_set]
      exact h8 l (by simp)
  · simpa using h9

theorem sSet_any {sb : Nat} {xss : List (List Int)} {S : Nat → Prop} {w : World} (h : StackAt w sb xss S) (i v : Int) (h0 : 0 ≤ i) (h1 : i ≤ 18446744073709551615) :
    Calls Tryz.prog 131 #[.pointer (some ⟨sb, 0, none⟩), .int .u64 i, .int .u64 v] w fun e w' => e = .returned (.tuple #[.int .u64 (topV xss i), .int .i64 (topE xss i)]) ∧ StackAt w' sb (setTop xss i v) S ∧ Moved S w w' := by
  have hg := sGet_any h i h0 h1
  rcases List.eq_nil_or_concat xss with rfl | ⟨yss, l, rfl⟩
  · rw [topV_nil, topE_nil] at hg
    rw [topV_nil, topE_nil, setTop_nil]
    have H := Lib.hid h
    clear h
    go_enter Tryz.func131, Tryz.ntmps131
    go_wp2_with fail
    refine hg.mono ?_
    rintro e w1 ⟨rfl, q, rfl⟩
    go_wp2
    go_ret2
    exact ⟨rfl, H.out.moved (Moved.drewN (fun _ => False) _ _) (fun _ _ e => e), Moved.drewN _ _ _⟩
  · rw [List.concat_eq_append] at h hg ⊢
    rw [topV_concat, topE_concat] at hg
    rw [topV_concat, topE_concat, setTop_concat]
    have H := Lib.hid h
    obtain ⟨a, cap, g, cb, o1, o2, o3, o4, o5, o6, o7, o8, o9, o10, o11, o12, o13, o14⟩ := h.open_
    have hfl := flat_len o12
    have hrd := top_reads o2
    have ht : ∀ q, Calls Tryz.prog 173 #[.pointer (some ⟨sb, 0, none⟩)] (w.drewN q) fun e w' => e = .returned (.tuple #[.slice (topA a yss.flatten.length (yss.flatten.length + l.length)) l.length l.length, .int .i64 0]) ∧ ∃ p, w' = (w.drewN q).drewN p := by
      intro q
      have c0 := heap_cell o1 0
      have c1 := heap_cell o1 1
      have := top_some (sb := sb) (w := w.drewN q) a (yss.flatten.length + l.length) cap g yss.length cb yss.flatten.length (by simpa using c0) (by simpa using c1) o4 (by omega) o5 (by omega) (by omega)
      rw [Nat.add_sub_cancel_left] at this
      exact this
    by_cases hi : i < l.length
    · obtain ⟨i, rfl⟩ := Int.eq_ofNat_of_zero_le h0
      have hi' : i < l.length := by omega
      rw [if_pos hi, Int.toNat_natCast] at hg
      rw [if_pos hi, Int.toNat_natCast]
      obtain ⟨gb, cap', cur, hs, _, hgb⟩ := own_shape o2 (by omega)
      cases hs
      have eT : topA (some ⟨gb, 0, none⟩) yss.flatten.length (yss.flatten.length + l.length) = some ⟨gb, yss.flatten.length, none⟩ := by
        unfold topA
        rw [if_neg (by omega)]
        simp [addr_add_none]
      rw [eT] at ht
      obtain ⟨f, hf⟩ : ∃ f, yss.flatten.length = f := ⟨_, rfl⟩
      rw [hf] at ht
      have HO := Lib.hid (And.intro o1 (And.intro o2 o3))
      have HF := Lib.hid hf
      obtain ⟨b', hb1, hb2, hb3, hb4⟩ := o7 _ rfl
      simp only [Addr.mk.injEq] at hb1
      obtain ⟨rfl, _, _⟩ := hb1
      have kc : w.cell? ⟨gb, f + i, none⟩ = some (.int .u64 (l[i]?.getD 0)) := by
        have := o2.cellAt (g := gb) (f + i) (by omega)
        rw [this, List.map_append, List.getElem?_append_right (by rw [List.length_map]; omega)]
        simp only [List.length_map]
        rw [show f + i - yss.flatten.length = i by omega]
        simp [hi']
      have kf := o2.frozenAt (g := gb) (f + i)
      obtain ⟨x, hx⟩ : ∃ x, l[i]?.getD 0 = x := ⟨_, rfl⟩
      rw [hx] at kc hg ⊢
      clear hx o1 o2 o3 o4 o5 o6 o7 h hrd hgb hf eT hfl
      go_enter Tryz.func131, Tryz.ntmps131
      go_wp2_with fail
      refine hg.mono ?_
      rintro e w1 ⟨rfl, q, rfl⟩
      go_wp2_with fail
      refine (ht q).mono ?_
      rintro e w1 ⟨rfl, p, rfl⟩
      go_wp2
      go_ret2
      have hm : Moved S w (((w.drewN q).drewN p).setCell ⟨gb, f + i, none⟩ (.int .u64 v)) := ((Moved.drewN S w q).trans (Moved.drewN S _ p) (fun _ h => .inl h)).trans (Moved.of_set _ gb (f + i) _ hb2) (fun _ h => .inl h)
      have h1 := HO.out.1
      have h9 := set_top_at (H.out.moved (Moved.drewN (fun _ => False) _ (q + p)) (fun _ _ e => e)) i v hi' gb _ _ _ h1
      rw [HF.out] at h9
      rw [drewN_add] at hm
      exact ⟨rfl, h9, hm⟩
    · rw [if_neg hi] at hg
      rw [if_neg hi, List.set_eq_of_length_le (by omega)]
      clear o1 o2 o3 o4 o5 o6 o7 h hrd
      rw [List.getElem?_eq_none (by omega)] at hg ⊢
      go_enter Tryz.func131, Tryz.ntmps131
      go_wp2_with fail
      refine hg.mono ?_
      rintro e w1 ⟨rfl, q, rfl⟩
      go_wp2
      go_ret2
      exact ⟨rfl, H.out.moved (Moved.drewN (fun _ => False) _ _) (fun _ _ e => e), Moved.drewN _ _ _⟩

def popL (xss : List (List Int)) : List Int := xss.getLast?.getD []
def popE (xss : List (List Int)) : Int := if xss.isEmpty then 2 else 0
theorem popL_concat (xss : List (List Int)) (l : List Int) : popL (xss ++ [l]) = l := by simp [popL]
theorem popE_concat (xss : List (List Int)) (l : List Int) : popE (xss ++ [l]) = 0 := by simp [popE]

theorem pop_at {w : World} {sb : Nat} {yss : List (List Int)} {l : List Int} {S : Nat → Prop} (H : StackAt w sb (yss ++ [l]) S) (a b : Option Addr) (n m cap cb : Nat)
    (he : w.heap[sb]? = some (.cells #[.slice a n cap, .slice b m cb] 170 (0, 0))) :
    StackAt ((w.setCell ⟨sb, 0, none⟩ (.slice a yss.flatten.length cap)).setCell ⟨sb, 1, none⟩ (.slice b yss.length cb)) sb yss S := by
  obtain ⟨sl, fr, h1, h2, h3, h4, h5, h6, h7, h8, h9⟩ := H
  rw [he] at h1
  simp only [Option.some.injEq, Obj.cells.injEq] at h1
  obtain ⟨h1, _, _⟩ := h1
  simp at h1
  obtain ⟨rfl, rfl⟩ := h1
  have e1 : (yss ++ [l]).flatten = yss.flatten ++ l := by simp
  rw [e1] at h2
  rw [offs_concat] at h3
  obtain ⟨_, _, he1, _⟩ := owns_slice h2
  obtain ⟨_, _, he2, _⟩ := owns_slice h3
  simp only [Value.slice.injEq] at he1 he2
  obtain ⟨_, hn1, _⟩ := he1
  obtain ⟨_, hn2, _⟩ := he2
  subst hn1 hn2
  have k2 := owns_take h2 yss.flatten.length (by rw [List.length_append]; omega)
  have k3 := owns_take h3 yss.length (by rw [List.length_append]; omega)
  rw [← List.map_take, Nat.mul_one, List.take_left] at k2
  have e3 : ((offs yss ++ [(yss.flatten.length : Int)]).map (Value.int .i64)).take (yss.length * 1) = (offs yss).map (Value.int .i64) := by
    rw [← List.map_take, Nat.mul_one]
    have : yss.length = (offs yss).length := (offs_length yss).symm
    rw [this, List.take_left]
  rw [e3] at k3
  have hm : Moved (fun k => k = sb) w ((w.setCell ⟨sb, 0, none⟩ (.slice a yss.flatten.length cap)).setCell ⟨sb, 1, none⟩ (.slice b yss.length cb)) :=
    (Moved.of_set (S := fun k => k = sb) w sb 0 _ rfl).trans (Moved.of_set (S := fun k => k = sb) _ sb 1 _ rfl) (fun _ h => .inl h)
  have hh := heap_set (heap_set he 0 (.slice a yss.flatten.length cap)) 1 (.slice b yss.length cb)
  refine ⟨.slice a yss.flatten.length cap, .slice b yss.length cb, by simpa using hh, ?_, ?_, h4, ?_, ?_, fun k hk => Nat.lt_of_lt_of_le (h7 k hk) hm.size, fun x hx => h8 x (by simp [hx]), by simp at h9; omega⟩
  · exact hm.owns k2 (fun k hk => by
      cases a with
      | none => cases hk
      | some q => exact (h5 k hk).2.1)
  · exact hm.owns k3 (fun k hk => by
      cases b with
      | none => cases hk
      | some q => exact (h6 k hk).2)
  · intro k hk
    cases a with
    | none => cases hk
    | some q =>
      have := h5 k hk
      refine ⟨this.1, this.2.1, fun e => this.2.2 ?_⟩
      cases b with
      | none => cases e
      | some q => exact e
  · intro k hk
    cases b with
    | none => cases hk
    | some q => exact h6 k hk

set_option maxRecDepth 100000 in
set_option maxHeartbeats 1000000 in
theorem sPop_any {sb : Nat} {xss : List (List Int)} {S : Nat → Prop} {w : World} (h : StackAt w sb xss S) :
    Calls Tryz.prog 129 #[.pointer (some ⟨sb, 0, none⟩)] w fun e w' => ∃ v, e = .returned (.tuple #[v, .int .i64 (popE xss)]) ∧ StackAt w' sb xss.dropLast S ∧ Moved S w w' ∧ w'.ownsRow w.heap.size 34 1 v (popL xss).length ((popL xss).map (Value.int .u64)) := by
  rcases List.eq_nil_or_concat xss with rfl | ⟨yss, l, rfl⟩
  · have ht := top_none h
    have H := Lib.hid h
    clear h
    go_enter Tryz.func129, Tryz.ntmps129
    go_wp2_with fail
    refine ht.mono ?_
    rintro e w1 ⟨rfl, rfl⟩
    go_wp2
    go_ret2
    exact ⟨_, rfl, H.out, Moved.refl _ _, World.ownsRow_nil _ _ _ _⟩
  · rw [List.concat_eq_append] at h ⊢
    rw [popL_concat, popE_concat, List.dropLast_concat]
    have H := Lib.hid h
    obtain ⟨a, cap, g, cb, o1, o2, o3, o4, o5, o6, o7, o8, o9, o10, o11, o12, o13, o14⟩ := h.open_
    have hfl := flat_len o12
    have hrd := top_reads o2
    have c0 := heap_cell o1 0
    have c1 := heap_cell o1 1
    have ht := top_some (sb := sb) (w := w) a (yss.flatten.length + l.length) cap g yss.length cb yss.flatten.length (by simpa using c0) (by simpa using c1) o4 (by omega) o5 (by omega) (by omega)
    rw [Nat.add_sub_cancel_left] at ht
    obtain ⟨ta, hta⟩ : ∃ ta, topA a yss.flatten.length (yss.flatten.length + l.length) = ta := ⟨_, rfl⟩
    rw [hta] at ht hrd
    obtain ⟨hr, hrn⟩ := hrd
    have hcl : ∀ q, Calls Tryz.prog 91 #[.slice ta l.length l.length] (w.drewN q) (RetOwn .u64 34 l (w.drewN q)) := fun q =>
      Clone_u64_any ta l l.length (w.drewN q) hr (by omega) (fun e => ⟨hrn e, by rw [hrn e]; rfl⟩)
    have hcb : yss.length + 1 ≤ cb := by
      obtain ⟨_, _, e9, h9, _⟩ := owns_slice o3
      simp only [Value.slice.injEq] at e9
      obtain ⟨_, _, rfl⟩ := e9
      exact h9
    have O1 := Lib.hid o1
    have hsb := o11 sb o8
    have o8' : S sb := o8
    obtain ⟨f, hf⟩ : ∃ f, yss.flatten.length = f := ⟨_, rfl⟩
    rw [hf] at o5 O1 hfl
    have HF := Lib.hid hf
    clear o1 o2 o3 o4 o6 o7 o8 o9 o10 o11 o12 c0 c1 hta hrn h hr hf
    have hw : IntKind.i64.wrap (f : Int) = f := by rw [IntKind.wrap_i64]; omega
    have hw2 : IntKind.i64.wrap (yss.length : Int) = yss.length := by rw [IntKind.wrap_i64]; omega
    have i0 : (0 : Int) ≤ (f : Int) := by omega
    have i1 : (f : Int) ≤ (cap : Int) := by omega
    have i2 : (0 : Int) ≤ (yss.length : Int) := by omega
    have i3 : (yss.length : Int) ≤ (cb : Int) := by omega
    go_enter Tryz.func129, Tryz.ntmps129
    go_wp2_with fail
    refine ht.mono ?_
    rintro e w1 ⟨rfl, q, rfl⟩
    go_wp2_with fail
    refine (hcl q).mono ?_
    rintro e w1 ⟨v, rfl, hb, ho⟩
    have hb' : Below w.heap.size w w1 := ⟨hb.os, hb.tape, hb.output, hb.size, hb.block⟩
    have O2 := heap_below hb' O1.out hsb
    have c0 := heap_cell O2 0
    have c1 := heap_cell O2 1
    have f0 := heap_free O2 0
    have f1 := heap_free O2 1
    simp at c0 c1
    have HO2 := Lib.hid O2
    clear O2 hcl ht hb
    go_wp2
    go_still_tail 16, (by kernel_rfl)
    change wpList _ _ _ _ _ w1.drew
    go_wp2
    generalize hW : World.drew _ = w2
    have O3 : w2.heap[sb]? = some (.cells (#[.slice a (f + l.length) cap, .slice (some ⟨g, 0, none⟩) (yss.length + 1) cb].setIfInBounds 0 (.slice a f cap)) 170 (0, 0)) := by
      rw [← hW]
      exact heap_set HO2.out 0 (.slice a f cap)
    have d1 := heap_cell O3 1
    have g1 := heap_free O3 1
    simp at d1
    clear O3
    have HW := Lib.hid hW
    clear hW c0 c1 f0 f1
    go_still_tail 14, (by kernel_rfl)
    change wpList _ _ _ _ _ (World.drew _)
    go_wp2
    go_ret2
    have h9 := pop_at (H.out.moved (Moved.of_below hb' (fun _ => False)) (fun _ _ e => e)) a (some ⟨g, 0, none⟩) _ _ cap cb HO2.out
    rw [HF.out] at h9
    have e9 : (w2.setCell ⟨sb, 1, none⟩ (.slice (some ⟨g, 0, none⟩) yss.length cb)).drew = ((w1.setCell ⟨sb, 0, none⟩ (.slice a f cap)).setCell ⟨sb, 1, none⟩ (.slice (some ⟨g, 0, none⟩) yss.length cb)).drew.drew := by
      rw [← HW.out]; rfl
    rw [e9]
    have hm : Moved (fun k => k = sb) w1 ((w1.setCell ⟨sb, 0, none⟩ (.slice a f cap)).setCell ⟨sb, 1, none⟩ (.slice (some ⟨g, 0, none⟩) yss.length cb)).drew.drew :=
      (((Moved.of_set (S := fun k => k = sb) w1 sb 0 _ rfl).trans (Moved.of_set (S := fun k => k = sb) _ sb 1 _ rfl) (fun _ h => .inl h)).trans (Moved.drew (fun k => k = sb) _) (fun _ h => .inl h)).trans (Moved.drew (fun k => k = sb) _) (fun _ h => .inl h)
    refine ⟨v, rfl, ?_, (Moved.of_below hb' S).trans hm (fun k hk => .inl (by subst hk; exact o8')), ?_⟩
    · exact h9.moved ((Moved.drew (fun _ => False) _).trans (Moved.drew (fun _ => False) _) (fun _ h => .inl h)) (fun _ _ e => e)
    · exact hm.owns ho (fun k hk e => by have := (ho.lt k hk).1; subst e; exact absurd hsb (Nat.not_lt.2 this))
end Go.Proofs.YtcenagpkfimkbaaGreatDoor
