/-
  The law SlotOne, walked.
-/
import Derived.Test.YtekkplledcffkaaSlot3
namespace Go.Proofs.Ytekkplledcffkaa
open Go Go.RowKit

set_option maxRecDepth 100000 in
set_option maxHeartbeats 8000000 in
theorem SlotOne_any (la : Option Addr) (xs : List Int) (lc : Nat) (at_ rg k t n : Int) (arr : Bool) (ka : Option Addr) (ks : List Int) (kc : Nat) (va : Option Addr) (vs : List Int) (vc : Nat) (p0 p1 p2 : Int) (w : World)
    (hX : Reads .u64 w la xs) (hK : Reads .i64 w ka ks) (hV : Reads .u64 w va vs) (hk0 : ka = none → ks = [] ∧ kc = 0) (hv0 : va = none → vs = [] ∧ vc = 0)
    (h0 : 0 ≤ p0) (h1 : p0 ≤ 18446744073709551615) (h2 : 0 ≤ p1) (h3 : p1 ≤ 18446744073709551615) :
    Calls Try.prog 3 #[.slice la xs.length lc, .agg #[.int .i64 at_, .int .i64 rg, .bool arr, .int .i64 k, .int .i64 t, .int .i64 n, .slice ka ks.length kc, .slice va vs.length vc], .agg #[.int .u64 p0, .int .u64 p1, .int .u64 p2]] w
      fun e w' => e = .returned (.bool true) ∧ Below w.heap.size w w' := by
  obtain ⟨W, hW⟩ : ∃ W, W = (w.alloc (.cells #[.int .i64 at_, .int .i64 rg, .bool arr, .int .i64 k, .int .i64 t, .int .i64 n, .slice ka ks.length kc, .slice va vs.length vc] 27)).alloc (.cells #[.int .u64 p0, .int .u64 p1, .int .u64 p2] 29) := ⟨_, rfl⟩
  have hbo : Below w.heap.size w W := by rw [hW]; exact ((Below.refl _ _).alloc (Nat.le_refl _) _).alloc (by simp) _
  have hO1 : W.heap[w.heap.size]? = some (.cells #[.int .i64 at_, .int .i64 rg, .bool arr, .int .i64 k, .int .i64 t, .int .i64 n, .slice ka ks.length kc, .slice va vs.length vc] 27 (0, 0)) := by
    rw [hW]; exact heap_alloc_lt (heap_alloc_eq _ _) _
  have hO2 : W.heap[w.heap.size + 1]? = some (.cells #[.int .u64 p0, .int .u64 p1, .int .u64 p2] 29 (0, 0)) := by
    rw [hW]
    have := heap_alloc_eq (w.alloc (.cells #[.int .i64 at_, .int .i64 rg, .bool arr, .int .i64 k, .int .i64 t, .int .i64 n, .slice ka ks.length kc, .slice va vs.length vc] 27)) (.cells #[.int .u64 p0, .int .u64 p1, .int .u64 p2] 29)
    rw [show (w.alloc (.cells #[.int .i64 at_, .int .i64 rg, .bool arr, .int .i64 k, .int .i64 t, .int .i64 n, .slice ka ks.length kc, .slice va vs.length vc] 27)).heap.size = w.heap.size + 1 by simp] at this
    exact this
  have hszW : W.heap.size = w.heap.size + 2 := by rw [hW]; simp
  have HW := Lib.hid hW
  clear hW
  by_cases hg : xs.length ≤ 300 ∧ ks.length ≤ 100 ∧ vs.length ≤ 100
  · obtain ⟨g1, g2, g3⟩ := hg
    have hl := laid_any la xs lc W (hX.below hbo) g1
    have hkg : ks = [] ∨ ∀ q, ka = some q → q.block ≠ W.heap.size := by
      rcases hK with h | ⟨b', o', ha, hc⟩
      · exact .inl h
      · rcases Nat.eq_zero_or_pos ks.length with hz | hz
        · exact .inl (List.length_eq_zero_iff.1 hz)
        · refine .inr (fun q hq => ?_)
          rw [ha] at hq
          cases hq
          have := cell_lt (hc 0 hz)
          show b' ≠ W.heap.size
          have h9 : b' < w.heap.size := this
          omega
    have hvg : vs = [] ∨ ∀ q, va = some q → q.block ≠ W.heap.size := by
      rcases hV with h | ⟨b', o', ha, hc⟩
      · exact .inl h
      · rcases Nat.eq_zero_or_pos vs.length with hz | hz
        · exact .inl (List.length_eq_zero_iff.1 hz)
        · refine .inr (fun q hq => ?_)
          rw [ha] at hq
          cases hq
          have := cell_lt (hc 0 hz)
          show b' ≠ W.heap.size
          have h9 : b' < w.heap.size := this
          omega
    have hxg : xs = [] ∨ ∀ q, la = some q → q.block ≠ W.heap.size := by
      rcases hX with h | ⟨b', o', ha, hc⟩
      · exact .inl h
      · rcases Nat.eq_zero_or_pos xs.length with hz | hz
        · exact .inl (List.length_eq_zero_iff.1 hz)
        · refine .inr (fun q hq => ?_)
          rw [ha] at hq
          cases hq
          have := cell_lt (hc 0 hz)
          show b' ≠ W.heap.size
          have h9 : b' < w.heap.size := this
          omega
    have hX0 := hX.below hbo
    have hK0 := hK.below hbo
    have hV0 := hV.below hbo
    clear hX hK hV
    have HG := Lib.hid (And.intro hkg (And.intro hvg hxg))
    clear hkg hvg hxg
    have HSZ := Lib.hid hszW
    clear hszW
    go_enter Try.func3, Try.ntmps3
    go_wp2_with fail
    rw [← HW.out]
    refine hl.mono ?_
    rintro e w1 ⟨rfl, hb1, hM1⟩
    have hX1 := hX0.below hb1
    have hK1 := hK0.below hb1
    have hV1 := hV0.below hb1
    have hP1 := heap_below hb1 hO1 (heap_lt hO1)
    have hQ1 := heap_below hb1 hO2 (heap_lt hO2)
    have hB1 := hbo.trans (hb1.mono hbo.size)
    clear hl hX0 hK0 hV0 hO1 hO2 hb1 hbo
    have a0 := heap_cell hP1 0
    have a1 := heap_cell hP1 1
    have a2 := heap_cell hP1 2
    have a3 := heap_cell hP1 3
    have a4 := heap_cell hP1 4
    have a5 := heap_cell hP1 5
    have a6 := heap_cell hP1 6
    have a7 := heap_cell hP1 7
    simp at a0 a1 a2 a3 a4 a5 a6 a7
    have b0 := heap_cell hQ1 0
    have b1 := heap_cell hQ1 1
    have b2 := heap_cell hQ1 2
    simp at b0 b1 b2
    have H1 := Lib.hid (And.intro hX1 (And.intro hK1 (And.intro hV1 (And.intro hP1 (And.intro hQ1 hB1)))))
    clear hX1 hK1 hV1 hP1 hQ1 hB1
    obtain ⟨old, hold⟩ : ∃ q, ldV xs at_ ks.length p1 = q := ⟨_, rfl⟩
    obtain ⟨E1, hE1⟩ : ∃ q, ldE xs.length at_ ks.length p1 = q := ⟨_, rfl⟩
    have hld := Load_any (W.heap.size + 1) W.heap.size xs at_ rg k t n arr ka ks kc va vs.length vc p1 w1 hM1 H1.out.2.1 g2 h2 h3
    rw [hold, hE1] at hld
    have HE := Lib.hid (And.intro hold hE1)
    clear hold hE1
    go_wp2_with fail
    refine hld.mono ?_
    rintro e w2 ⟨rfl, hb2⟩
    have hM2 := hM1.later hb2
    have H2 := Lib.hid (And.intro (H1.out.1.below hb2) (And.intro (H1.out.2.1.below hb2) (And.intro (H1.out.2.2.1.below hb2) (And.intro (heap_below hb2 H1.out.2.2.2.1 (heap_lt H1.out.2.2.2.1)) (And.intro (heap_below hb2 H1.out.2.2.2.2.1 (heap_lt H1.out.2.2.2.2.1)) (H1.out.2.2.2.2.2.trans (hb2.mono H1.out.2.2.2.2.2.size)))))))
    clear hld hM1 hb2 a0 a1 a2 a3 a4 a5 a6 a7 b0 b1 b2
    have a0 := heap_cell H2.out.2.2.2.1 0
    have a1 := heap_cell H2.out.2.2.2.1 1
    have a2 := heap_cell H2.out.2.2.2.1 2
    have a3 := heap_cell H2.out.2.2.2.1 3
    have a4 := heap_cell H2.out.2.2.2.1 4
    have a5 := heap_cell H2.out.2.2.2.1 5
    have a6 := heap_cell H2.out.2.2.2.1 6
    have a7 := heap_cell H2.out.2.2.2.1 7
    simp at a0 a1 a2 a3 a4 a5 a6 a7
    have b0 := heap_cell H2.out.2.2.2.2.1 0
    have b1 := heap_cell H2.out.2.2.2.2.1 1
    have b2 := heap_cell H2.out.2.2.2.2.1 2
    simp at b0 b1 b2
    obtain ⟨F, hF⟩ : ∃ q, stE xs.length at_ ks.length p0 = q := ⟨_, rfl⟩
    obtain ⟨ys, hys⟩ : ∃ q, stL xs at_ ks.length p0 p2 = q := ⟨_, rfl⟩
    have hst := Store_any (W.heap.size + 1) W.heap.size xs at_ rg k t n arr ka ks kc va vs vc p0 p2 w2 hM2 H2.out.2.1 g2 H2.out.2.2.1 g3 hv0 hk0 HG.out.1 HG.out.2.1 h0 h1
    rw [hF, hys] at hst
    go_wp2_with fail
    refine hst.mono ?_
    rintro e w3 ⟨x1, x2, x4, x5, x6, x3, y1, y2, l1, l2, c1, c2, rfl, hg3, hM3, _⟩
    have HS := Lib.hid (And.intro hF hys)
    have hxl : ys.length = xs.length := by rw [← hys]; exact stL_length _ _ _ _ _
    obtain ⟨d, hd0⟩ := stL_only xs at_ ks.length p0 p2
    rw [hys] at hd0
    have HD := Lib.hid (And.intro hxl hd0)
    clear hd0 hst hM2 a0 a1 a2 a3 a4 a5 a6 a7 b0 b1 b2 hxl
    have hP3 := heap_grown hg3 H2.out.2.2.2.1 (by have := heap_lt H2.out.2.2.2.1; have := HSZ.out; omega)
    have hQ3 := heap_grown hg3 H2.out.2.2.2.2.1 (by have := HSZ.out; omega)
    have hX3 := H2.out.1.grown_or hg3 HG.out.2.2
    have hK3 := H2.out.2.1.grown_or hg3 HG.out.1
    have hB3 : Below w.heap.size w w3 := H2.out.2.2.2.2.2.grown hg3 H2.out.2.2.2.2.2.size (fun k e => by cases e; have := HSZ.out; omega)
    clear hg3
    have hbo3 : Below w3.heap.size w3 (w3.alloc (.cells #[.int .i64 x1, .int .i64 x2, .bool x3, .int .i64 x4, .int .i64 x5, .int .i64 x6, .slice y1 l1 c1, .slice y2 l2 c2] 27)) := (Below.refl _ _).alloc (Nat.le_refl _) _
    have hM4 := hM3.later hbo3
    have H4 := Lib.hid (And.intro (hX3.below hbo3) (And.intro (hK3.below hbo3) (And.intro (heap_below hbo3 hP3 (heap_lt hP3)) (And.intro (heap_below hbo3 hQ3 (heap_lt hQ3)) (hB3.trans (hbo3.mono hB3.size))))))
    clear hP3 hQ3 hX3 hK3 hB3 hbo3 hM3
    go_wp2_with fail
    refine (wAll_any _ _ _ _ hM4).mono ?_
    rintro e w5 ⟨v5, rfl, hb5, ho5⟩
    obtain ⟨a5, c5, rfl, hr5, _⟩ := owns_reads ho5
    have hX5 := H4.out.1.below hb5
    have hM5 := hM4.later hb5
    have H5 := Lib.hid (And.intro (H4.out.2.1.below hb5) (And.intro (heap_below hb5 H4.out.2.2.1 (heap_lt H4.out.2.2.1)) (And.intro (heap_below hb5 H4.out.2.2.2.1 (heap_lt H4.out.2.2.2.1)) (And.intro hM5 (H4.out.2.2.2.2.trans (hb5.mono H4.out.2.2.2.2.size))))))
    rw [HD.out.1]
    clear ho5 hM4 hb5 hM5
    go_wp2
    go_loopw [12, 60] (fun c i wr => ∃ j c' : Nat, j ≤ xs.length ∧ i = .int .i64 j ∧ c = .int .i64 c' ∧ c' ≤ 1 ∧ (j ≤ d → c' = 0) ∧ (ys = xs → c' = 0) ∧ wr = w5) (fun _ i _ => xs.length - (intOf i).toNat)
    case atStart => exact ⟨0, 0, Nat.zero_le _, rfl, rfl, by omega, fun _ => rfl, fun _ => rfl, rfl⟩
    case round =>
      obtain ⟨j, c', hj, rfl, rfl, hc1, hc2, hc3, rfl⟩ := hrel
      by_cases hlt : j < xs.length
      · obtain ⟨bx, ox, rfl, hx⟩ := hX5.at_ j hlt
        obtain ⟨by_, oy, rfl, hy⟩ := hr5.at_ j (by have := HD.out.1; omega)
        obtain ⟨x, hxv⟩ : ∃ q, xs[j]?.getD 0 = q := ⟨_, rfl⟩
        obtain ⟨y, hyv⟩ : ∃ q, ys[j]?.getD 0 = q := ⟨_, rfl⟩
        rw [hxv] at hx
        rw [hyv] at hy
        by_cases hxy : y = x
        · subst hxy
          have hb : (y != y) = false := by simp
          clear hxv hyv hX5 hr5
          go_wp2
          go_roundw
          case rel => exact ⟨j + 1, c', by omega, by go_num, rfl, hc1, fun h => hc2 (by omega), hc3, trivial⟩
          case measure => simp [intOf]; omega
        · have hjd : j = d := by
            apply Classical.byContradiction
            intro hne
            have := HD.out.2 j hne
            rw [this] at hyv
            exact hxy (hyv.symm.trans hxv)
          have hne : ys ≠ xs := by
            intro e
            rw [e] at hyv
            exact hxy (hyv.symm.trans hxv)
          have hc0 : c' = 0 := hc2 (by omega)
          subst hc0
          have HJ := Lib.hid hjd
          have hb : (y != x) = true := by simp [hxy]
          clear hxv hyv hX5 hr5 hjd
          go_wp2
          go_roundw
          case rel => exact ⟨j + 1, 1, by omega, by go_num, rfl, by omega, fun h => by have := HJ.out; omega, fun h => absurd h hne, trivial⟩
          case measure => simp [intOf]; omega
      · obtain rfl : j = xs.length := by omega
        clear hX5 hr5 hc2 hlt hj
        have HN := Lib.hid (And.intro hc1 hc3)
        clear hc3
        by_cases hF0 : F = 0
        · have hv1 := (ldV_stored (v := p2) (xs := xs) (at_ := at_) (n := ks.length) (i := p0) (by rw [HS.out.1]; exact hF0))
          have hoth : p0 = p1 ∨ ldV ys at_ ks.length p1 = old := by
            by_cases hp : p0 = p1
            · exact .inl hp
            · exact .inr (by rw [← HS.out.2, ldV_other g2 h0 h2 hp, HE.out.1])
          rw [HS.out.2] at hv1
          have hl0 := Load_any (W.heap.size + 1) W.heap.size ys at_ rg k t n arr ka ks kc va vs.length vc p0 wr H5.out.2.2.2.1 H5.out.1 g2 h0 h1
          rw [hv1.1, HD.out.1, hv1.2] at hl0
          subst hF0
          have HO := Lib.hid hoth
          clear hv1 hoth
          have a0 := heap_cell H5.out.2.1 0
          have a1 := heap_cell H5.out.2.1 1
          have a2 := heap_cell H5.out.2.1 2
          have a3 := heap_cell H5.out.2.1 3
          have a4 := heap_cell H5.out.2.1 4
          have a5 := heap_cell H5.out.2.1 5
          have a6 := heap_cell H5.out.2.1 6
          have a7 := heap_cell H5.out.2.1 7
          simp at a0 a1 a2 a3 a4 a5 a6 a7
          have b0 := heap_cell H5.out.2.2.1 0
          have b1 := heap_cell H5.out.2.2.1 1
          have b2 := heap_cell H5.out.2.2.1 2
          simp at b0 b1 b2
          go_wp2_with fail
          refine hl0.mono ?_
          rintro e w6 ⟨rfl, hb6⟩
          have hM6 := H5.out.2.2.2.1.later hb6
          have H6 := Lib.hid (And.intro (H5.out.1.below hb6) (And.intro (heap_below hb6 H5.out.2.1 (heap_lt H5.out.2.1)) (And.intro (heap_below hb6 H5.out.2.2.1 (heap_lt H5.out.2.2.1)) (And.intro hM6 (H5.out.2.2.2.2.trans (hb6.mono H5.out.2.2.2.2.size))))))
          clear hl0 hb6 hM6 a0 a1 a2 a3 a4 a5 a6 a7 b0 b1 b2
          have a0 := heap_cell H6.out.2.1 0
          have a1 := heap_cell H6.out.2.1 1
          have a2 := heap_cell H6.out.2.1 2
          have a3 := heap_cell H6.out.2.1 3
          have a4 := heap_cell H6.out.2.1 4
          have a5 := heap_cell H6.out.2.1 5
          have a6 := heap_cell H6.out.2.1 6
          have a7 := heap_cell H6.out.2.1 7
          simp at a0 a1 a2 a3 a4 a5 a6 a7
          have b0 := heap_cell H6.out.2.2.1 0
          have b1 := heap_cell H6.out.2.2.1 1
          have b2 := heap_cell H6.out.2.2.1 2
          simp at b0 b1 b2
          obtain ⟨now, hnow⟩ : ∃ q, ldV ys at_ ks.length p1 = q := ⟨_, rfl⟩
          have hl1 := Load_any (W.heap.size + 1) W.heap.size ys at_ rg k t n arr ka ks kc va vs.length vc p1 w6 H6.out.2.2.2.1 H6.out.1 g2 h2 h3
          rw [HD.out.1, HE.out.2, hnow] at hl1
          have HO2 : Hid (p0 = p1 ∨ now = old) := Lib.hid (by rw [← hnow]; exact HO.out)
          clear hnow HO
          go_wp2_with fail
          refine hl1.mono ?_
          rintro e w7 ⟨rfl, hb7⟩
          have hQ7 := heap_below hb7 H6.out.2.2.1 (heap_lt H6.out.2.2.1)
          have hB7 := H6.out.2.2.2.2.trans (hb7.mono H6.out.2.2.2.2.size)
          clear hl1 hb7 a0 a1 a2 a3 a4 a5 a6 a7 b0 b1 b2
          go_wp2_with fail
          refine (fixed_any _).mono ?_
          rintro e w8 ⟨rfl, hb8⟩
          have hQ8 := heap_below hb8 hQ7 (heap_lt hQ7)
          have hB8 := hB7.trans (hb8.mono hB7.size)
          clear hQ7 hB7 hb8
          have b0 := heap_cell hQ8 0
          have b1 := heap_cell hQ8 1
          have b2 := heap_cell hQ8 2
          simp at b0 b1 b2
          have HQ8 := Lib.hid hQ8
          clear hQ8
          by_cases hp : p0 = p1
          · subst hp
            go_wp2
            go_ret
            exact ⟨rfl, hB8⟩
          · obtain rfl : now = old := HO2.out.resolve_left hp
            go_wp2
            go_ret
            exact ⟨rfl, hB8⟩
        · have hyx : ys = xs := by
            rw [← HS.out.2]
            exact stL_refused (by rw [HS.out.1]; exact hF0)
          obtain rfl : c' = 0 := HN.out.2 hyx
          clear hyx hc1
          go_wp2_with fail
          refine (fixed_any _).mono ?_
          rintro e w6 ⟨rfl, hb6⟩
          have hB6 := H5.out.2.2.2.2.trans (hb6.mono H5.out.2.2.2.2.size)
          clear hb6
          go_wp2
          go_ret
          exact ⟨rfl, hB6⟩
  · have a6 := heap_cell hO1 6
    have a7 := heap_cell hO1 7
    simp at a6 a7
    clear hX hK hV hO1 hO2 hszW hk0 hv0
    rcases (show 300 < xs.length ∨ (xs.length ≤ 300 ∧ 100 < ks.length) ∨ (xs.length ≤ 300 ∧ ks.length ≤ 100 ∧ 100 < vs.length) by omega) with q1 | ⟨q1, q2⟩ | ⟨q1, q2, q3⟩
    all_goals
      clear hg
      go_enter Try.func3, Try.ntmps3
      go_wp2_with fail
      rw [← HW.out]
      go_wp2_with fail
      refine (fixed_any _).mono ?_
      rintro e w6 ⟨rfl, hb6⟩
      have hB6 := hbo.trans (hb6.mono hbo.size)
      clear hb6
      go_wp2
      go_ret
      exact ⟨rfl, hB6⟩
end Go.Proofs.Ytekkplledcffkaa
