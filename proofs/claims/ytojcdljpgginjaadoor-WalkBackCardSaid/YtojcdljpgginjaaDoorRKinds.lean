/-
  The document's kinds of an object's fields.
-/
import Derived.Test.YtojcdljpgginjaaDoorKinds
namespace Go.Proofs.YtojcdljpgginjaaDoor
open Go Go.RowKit

set_option maxRecDepth 100000 in
set_option maxHeartbeats 2000000 in
theorem rKinds_any (a : Option Addr) (ds : List (List Int)) (c : Nat) (arr : Bool) (k t n : Int) (w : World) (hD : Descs w a ds) :
    Calls Tryd.prog 37 #[.slice a ds.length c, .agg #[.bool arr, .int .i64 k, .int .i64 t, .int .i64 n]] w (RetKindsR (knL ds arr k t n) (knE ds arr k t n) w) := by
  have hbo : Below w.heap.size w ((w.alloc (.cells #[.bool arr, .int .i64 k, .int .i64 t, .int .i64 n] 26)).alloc (.cells #[] 3)) := ((Below.refl _ _).alloc (Nat.le_refl _) _).alloc (by simp) _
  have HB := Lib.hid hbo
  cases arr
  · rcases (show t < 0 ∨ (0 ≤ t ∧ ds.length ≤ t) ∨ (0 ≤ t ∧ t < ds.length) by omega) with h | ⟨h0, h⟩ | ⟨h0, h⟩
    · have e1 : knE ds false k t n = 2 := by rw [knE, if_neg (by simp), if_neg (by omega)]
      rw [knL_no (by omega), e1]
      clear hD e1 hbo
      go_enter Tryd.func37, Tryd.ntmps37
      go_wp2
      go_ret2
      exact ⟨_, _, rfl, HB.out, .inl rfl, by simp⟩
    · have e1 : knE ds false k t n = 2 := by rw [knE, if_neg (by simp), if_neg (by omega)]
      rw [knL_no (by omega), e1]
      clear hD e1 hbo
      go_enter Tryd.func37, Tryd.ntmps37
      go_wp2
      go_ret2
      exact ⟨_, _, rfl, HB.out, .inl rfl, by simp⟩
    · obtain ⟨t, rfl⟩ := Int.eq_ofNat_of_zero_le h0
      obtain ⟨b, off, fa, fc, d, rfl, hdt, hc, hr, hnil⟩ := hD.at_ t (by omega)
      have e0 : ds.getD (t : Int).toNat [] = d := by simp [hdt]
      have hc2 := (hbo.cell (cell_lt hc)).trans hc
      have hr2 := hr.below hbo
      by_cases hnd : n = d.length
      · have e1 : knE ds false k t n = 0 := by rw [knE, if_neg (by simp), if_pos (by omega), e0, if_pos hnd]
        have e2 : knL ds false k t n = d := by rw [knL, if_pos e1, if_neg (by simp), e0]
        rw [e1, e2]
        subst hnd
        have hb : ((d.length : Int) != (d.length : Int)) = false := by simp
        have HR := Lib.hid (And.intro hr2 hnil)
        clear e1 e2 hD hdt e0 hr hr2 hc hnil hbo
        go_enter Tryd.func37, Tryd.ntmps37
        go_wp2
        go_quiet (fail)
        go_wp2
        go_ret2
        exact ⟨_, _, rfl, below_drewN HB.out _, HR.out.1.below (below_drewN (Below.refl _ _) _), HR.out.2⟩
      · have e1 : knE ds false k t n = 1 := by rw [knE, if_neg (by simp), if_pos (by omega), e0, if_neg hnd]
        rw [knL_no (by omega), e1]
        have hb : ((n : Int) != (d.length : Int)) = true := by simp [hnd]
        clear e1 hD hdt e0 hr hr2 hc hnil hbo
        go_enter Tryd.func37, Tryd.ntmps37
        go_wp2
        go_quiet (fail)
        go_wp2
        go_ret2
        exact ⟨_, _, rfl, below_drewN HB.out _, .inl rfl, by simp⟩
  · clear hD
    by_cases hk : kindB k = true
    · by_cases hr : 0 ≤ n ∧ n ≤ 4000
      · have e1 : knE ds true k t n = 0 := by rw [knE, if_pos rfl, if_pos hk, if_pos hr]
        have e2 : knL ds true k t n = List.replicate n.toNat k := by rw [knL, if_pos e1, if_pos rfl]
        have hk2 : 0 ≤ k ∧ k < 4 := by simpa [kindB] using hk
        rw [e1, e2]
        obtain ⟨h0, h1⟩ := hr
        obtain ⟨k0, k1⟩ := hk2
        obtain ⟨n, rfl⟩ := Int.eq_ofNat_of_zero_le h0
        rw [Int.toNat_natCast]
        obtain ⟨i0, hi, hz0, hz1, hz2⟩ := info_parts info_int
        have hO0 := heap_alloc_lt (heap_alloc_eq w (.cells #[.bool true, .int .i64 k, .int .i64 t, .int .i64 n] 26)) (.cells #[] 3)
        have HO0 := Lib.hid hO0
        have hm0 := World.ownsRow_made (base := w.heap.size + 1) (e := 3) (size := 1) (w.alloc (.cells #[.bool true, .int .i64 k, .int .i64 t, .int .i64 n] 26)) #[] 0 (by simp) (by decide) rfl
        simp only [World.size_alloc] at hm0
        have HM0 := Lib.hid hm0
        clear e1 e2 hk hO0 hbo hm0
        go_enter Tryd.func37, Tryd.ntmps37
        go_wp2
        go_loopw [6, 7] (fun v i wr => ∃ j : Nat, j ≤ n ∧ i = .int .i64 j ∧ wr.ownsRow (w.heap.size + 1) 3 1 v j ((List.replicate j k).map (Value.int .i64)) ∧ v ≠ .slice none 0 0 ∧ Below w.heap.size w wr ∧ wr.heap[w.heap.size]? = some (.cells #[.bool true, .int .i64 k, .int .i64 t, .int .i64 n] 26 (0, 0))) (fun _ i _ => n - (intOf i).toNat)
        case atStart => exact ⟨0, Nat.zero_le _, rfl, HM0.out, by simp, HB.out, HO0.out⟩
        case round =>
          obtain ⟨j, hj, rfl, hown, hnn, hB, hO⟩ := hrel
          have a1 := heap_cell hO 1
          have a3 := heap_cell hO 3
          simp at a1 a3
          have HO := Lib.hid hO
          clear hO
          have hsz := heap_lt HO.out
          by_cases hlt : j < n
          · go_wp2_with (at_builtin; refine wpList_append_own _ rfl _ _ 48 rfl (w.heap.size + 1) 3 i0 (.int .i64 0) 1 8 Tryd.underlying48 hi hz0 hz1 hz2 rfl (by decide) _ _ _ rfl (hown.alloc _) ⟨wr.heap.size, 0, none⟩ 1 1 [.int .i64 k] rfl rfl ?c1 ?c2 ?c3 ?c4 ?c5 ?_)
            case c1 =>
              intro q u hq
              match q, hq with
              | 0, hq => simp at hq; subst hq; simp [Addr.add]
            case c2 => intro u hu; simp at hu; subst hu; rfl
            case c3 => unfold maxLen; omega
            case c4 => omega
            case c5 => simp; omega
            · intro v' w1 hown' hgrow hnil
              have hn2 : v' ≠ .slice none 0 0 := hnil
              have hB1 := (hB.alloc hB.size (.cells #[.int .i64 k] 3)).grown hgrow (by have := hB.size; simp; omega) (fun k e => by have := (hown.lt k e).1; omega)
              have ho2 : w1.ownsRow (w.heap.size + 1) 3 1 v' (j + 1) ((List.replicate (j + 1) k).map (Value.int .i64)) := by
                rw [List.replicate_succ']; simpa using hown'
              have hO1 := (hgrow.block w.heap.size (by simp; omega) (fun e => by have := (hown.lt _ e.symm).1; omega)).trans (heap_alloc_lt HO.out _)
              clear hown' hgrow hown hB hnn hnil a1 a3
              go_wp2
              go_roundw
              case rel => exact ⟨j + 1, by omega, by go_num, ho2, hn2, hB1, hO1⟩
              case measure => simp [intOf]; omega
          · obtain rfl : j = n := by omega
            have ho : wr.ownsRow (w.heap.size + 1) 3 1 u6 (List.replicate j k).length ((List.replicate j k).map (Value.int .i64)) := by simpa using hown
            obtain ⟨a1', c1, hv, hr, _⟩ := owns_reads ho
            subst hv
            have hne : a1' ≠ none := by
              rintro rfl
              obtain ⟨_, _, e, _, e2, _⟩ := owns_slice ho
              simp only [Value.slice.injEq] at e
              obtain ⟨e3, _, e4⟩ := e
              obtain ⟨e5, e6⟩ := e2 e3.symm
              rw [e4, e6, e5] at hnn
              exact hnn rfl
            clear hown ho hnn
            go_wp2
            go_ret2
            exact ⟨_, c1, by simp, hB, hr, fun e => absurd e hne⟩
      · have e1 : knE ds true k t n = 1 := by rw [knE, if_pos rfl, if_pos hk, if_neg hr]
        rw [knL_no (by omega), e1]
        have hk2 : 0 ≤ k ∧ k < 4 := by simpa [kindB] using hk
        obtain ⟨k0, k1⟩ := hk2
        clear e1 hk hbo
        rcases (show n < 0 ∨ (¬ n < 0 ∧ 4000 < n) by omega) with h | ⟨h0, h⟩
        all_goals
          clear hr
          go_enter Tryd.func37, Tryd.ntmps37
          go_wp2
          go_ret2
          exact ⟨_, _, rfl, HB.out, .inl rfl, by simp⟩
    · have e1 : knE ds true k t n = 4 := by rw [knE, if_pos rfl, if_neg hk]
      rw [knL_no (by omega), e1]
      have hk2 : ¬ (0 ≤ k ∧ k < 4) := by simpa [kindB] using hk
      clear e1 hk hbo
      rcases (show k < 0 ∨ (¬ k < 0 ∧ 3 < k) by omega) with h | ⟨h0, h⟩
      all_goals
        clear hk2
        go_enter Tryd.func37, Tryd.ntmps37
        go_wp2
        go_ret2
        exact ⟨_, _, rfl, HB.out, .inl rfl, by simp⟩
end Go.Proofs.YtojcdljpgginjaaDoor
