/-
  The law SlotPlays, walked.
-/
import Derived.Test.YtekkplledcffkaaDoorSlot7
namespace Go.Proofs.YtekkplledcffkaaDoor
open Go Go.RowKit

set_option maxRecDepth 100000 in
set_option maxHeartbeats 16000000 in
theorem SlotPlays_any (la : Option Addr) (xs : List Int) (lc : Nat) (at_ rg k t n : Int) (arr : Bool) (ka : Option Addr) (ks : List Int) (kc : Nat) (va : Option Addr) (vs : List Int) (vc : Nat) (p0 p1 : Int) (w : World) (hT : Tab w)
    (hX : Reads .u64 w la xs) (hK : Reads .i64 w ka ks) (hV : Reads .u64 w va vs) (hk0 : ka = none → ks = [] ∧ kc = 0) (hv0 : va = none → vs = [] ∧ vc = 0)
    (h0 : 0 ≤ p0) (h1 : p0 ≤ 18446744073709551615) :
    Calls Tryd.prog 3 #[.slice la xs.length lc, .agg #[.int .i64 at_, .int .i64 rg, .bool arr, .int .i64 k, .int .i64 t, .int .i64 n, .slice ka ks.length kc, .slice va vs.length vc], .agg #[.int .u64 p0, .int .u64 p1]] w
      fun e w' => e = .returned (.bool true) ∧ Below w.heap.size w w' := by
  obtain ⟨W, hW⟩ : ∃ W, W = (w.alloc (.cells #[.int .i64 at_, .int .i64 rg, .bool arr, .int .i64 k, .int .i64 t, .int .i64 n, .slice ka ks.length kc, .slice va vs.length vc] 27)).alloc (.cells #[.int .u64 p0, .int .u64 p1] 29) := ⟨_, rfl⟩
  have hbo : Below w.heap.size w W := by rw [hW]; exact ((Below.refl _ _).alloc (Nat.le_refl _) _).alloc (by simp) _
  have hO1 : W.heap[w.heap.size]? = some (.cells #[.int .i64 at_, .int .i64 rg, .bool arr, .int .i64 k, .int .i64 t, .int .i64 n, .slice ka ks.length kc, .slice va vs.length vc] 27 (0, 0)) := by
    rw [hW]; exact heap_alloc_lt (heap_alloc_eq _ _) _
  have hO2 : W.heap[w.heap.size + 1]? = some (.cells #[.int .u64 p0, .int .u64 p1] 29 (0, 0)) := by
    rw [hW]
    have := heap_alloc_eq (w.alloc (.cells #[.int .i64 at_, .int .i64 rg, .bool arr, .int .i64 k, .int .i64 t, .int .i64 n, .slice ka ks.length kc, .slice va vs.length vc] 27)) (.cells #[.int .u64 p0, .int .u64 p1] 29)
    rw [show (w.alloc (.cells #[.int .i64 at_, .int .i64 rg, .bool arr, .int .i64 k, .int .i64 t, .int .i64 n, .slice ka ks.length kc, .slice va vs.length vc] 27)).heap.size = w.heap.size + 1 by simp] at this
    exact this
  have hszW : W.heap.size = w.heap.size + 2 := by rw [hW]; simp
  have HW := Lib.hid hW
  clear hW
  by_cases hg : xs.length ≤ 300 ∧ ks.length ≤ 100 ∧ vs.length ≤ 100
  · obtain ⟨g1, g2, g3⟩ := hg
    have H0 : Hid (PInv w la xs ka ks va vs #[.int .i64 at_, .int .i64 rg, .bool arr, .int .i64 k, .int .i64 t, .int .i64 n, .slice ka ks.length kc, .slice va vs.length vc] #[.int .u64 p0, .int .u64 p1] W) := Lib.hid ⟨hX.below hbo, hK.below hbo, hV.below hbo, hO1, hO2, hbo, hT.below hT.lt hbo, hX.lt_or, hK.lt_or, hV.lt_or, hT.lt⟩
    clear hX hK hV hT hbo hO1 hO2
    have HSZ := Lib.hid hszW
    clear hszW
    have hl := laid_any la xs lc W H0.out.x g1
    obtain ⟨i0, hi0, hz0, hz1, hz2⟩ := info_parts info_u64
    obtain ⟨E0, hE0⟩ : ∃ q, atE ks.length p0 = q := ⟨_, rfl⟩
    obtain ⟨N0, hN0⟩ : ∃ q, niE ks.length p0 = q := ⟨_, rfl⟩
    have HEN : Hid ((E0 = 0 ∧ N0 = 1) ∨ (E0 = 8 ∧ N0 = 8)) := by
      refine Lib.hid ?_
      rw [← hE0, ← hN0]
      unfold atE niE
      split <;> simp
    obtain ⟨A0, hA0⟩ : ∃ q, atV at_ ks.length p0 = q := ⟨_, rfl⟩
    obtain ⟨K0, hK0⟩ : ∃ q, kiV ks p0 = q := ⟨_, rfl⟩
    obtain ⟨L0, hL0⟩ : ∃ q, ldV xs at_ ks.length p0 = q := ⟨_, rfl⟩
    obtain ⟨F0, hF0⟩ : ∃ q, ldE xs.length at_ ks.length p0 = q := ⟨_, rfl⟩
    obtain ⟨F, hF⟩ : ∃ q, stE xs.length at_ ks.length p0 = q := ⟨_, rfl⟩
    obtain ⟨ys, hys⟩ : ∃ q, stL xs at_ ks.length p0 p1 = q := ⟨_, rfl⟩
    have HEQ := Lib.hid (And.intro hE0 (And.intro hN0 (And.intro hA0 (And.intro hK0 (And.intro hL0 (And.intro hF0 (And.intro hF hys)))))))
    clear hE0 hN0 hA0 hK0 hL0 hF0 hF hys
    have q1 : (A0 != A0) = false := by simp
    have q2 : (K0 != K0) = false := by simp
    have q3 : (E0 != E0) = false := by simp
    have q4 : (L0 != L0) = false := by simp
    have q5 : (F0 != F0) = false := by simp
    have q6 : (F == F) = true := by simp
    have q7 : (N0 == N0) = true := by simp
    go_enter Tryd.func3, Tryd.ntmps3
    go_wp2_with fail
    rw [← HW.out]
    refine hl.mono ?_
    rintro e w1 ⟨rfl, hb1, hM1⟩
    have H1 := Lib.hid (H0.out.below hb1)
    have HM1 := Lib.hid hM1
    clear hl hb1 hM1
    have a0 := heap_cell H1.out.o 0
    have a1 := heap_cell H1.out.o 1
    have a2 := heap_cell H1.out.o 2
    have a3 := heap_cell H1.out.o 3
    have a4 := heap_cell H1.out.o 4
    have a5 := heap_cell H1.out.o 5
    have a6 := heap_cell H1.out.o 6
    have a7 := heap_cell H1.out.o 7
    simp at a0 a1 a2 a3 a4 a5 a6 a7
    have b0 := heap_cell H1.out.p 0
    have b1 := heap_cell H1.out.p 1
    simp at b0 b1
    have hc := At_any at_ rg k t n arr ka ks kc va vs.length vc p0 w1 H1.out.k g2 h0 h1
    rw [HEQ.out.1, HEQ.out.2.2.1, HEQ.out.2.2.2.1] at hc
    go_wp2_with fail
    refine hc.mono ?_
    rintro e w2 ⟨rfl, hb⟩
    have H2 := Lib.hid (H1.out.below hb)
    have HM2 := Lib.hid (HM1.out.later hb)
    clear hc hb
    clear a0 a1 a2 a3 a4 a5 a6 a7 b0 b1
    have a0 := heap_cell H2.out.o 0
    have a1 := heap_cell H2.out.o 1
    have a2 := heap_cell H2.out.o 2
    have a3 := heap_cell H2.out.o 3
    have a4 := heap_cell H2.out.o 4
    have a5 := heap_cell H2.out.o 5
    have a6 := heap_cell H2.out.o 6
    have a7 := heap_cell H2.out.o 7
    simp at a0 a1 a2 a3 a4 a5 a6 a7
    have b0 := heap_cell H2.out.p 0
    have b1 := heap_cell H2.out.p 1
    simp at b0 b1
    have hc := rAt_any at_ rg k t n arr ka ks kc va vs vc p0 w2 H2.out.k g2 h0 h1
    rw [HEQ.out.1, HEQ.out.2.2.1, HEQ.out.2.2.2.1] at hc
    go_wp2_with fail
    refine hc.mono ?_
    rintro e w3 ⟨rfl, hb⟩
    have H3 := Lib.hid (H2.out.below hb)
    have HM3 := Lib.hid (HM2.out.later hb)
    clear hc hb
    clear a0 a1 a2 a3 a4 a5 a6 a7 b0 b1
    have a0 := heap_cell H3.out.o 0
    have a1 := heap_cell H3.out.o 1
    have a2 := heap_cell H3.out.o 2
    have a3 := heap_cell H3.out.o 3
    have a4 := heap_cell H3.out.o 4
    have a5 := heap_cell H3.out.o 5
    have a6 := heap_cell H3.out.o 6
    have a7 := heap_cell H3.out.o 7
    simp at a0 a1 a2 a3 a4 a5 a6 a7
    have b0 := heap_cell H3.out.p 0
    have b1 := heap_cell H3.out.p 1
    simp at b0 b1
    have hc := Load_any (W.heap.size + 1) W.heap.size xs at_ rg k t n arr ka ks kc va vs.length vc p0 w3 HM3.out H3.out.k g2 h0 h1
    rw [HEQ.out.2.2.2.2.1, HEQ.out.2.2.2.2.2.1] at hc
    go_wp2_with fail
    refine hc.mono ?_
    rintro e w4 ⟨rfl, hb⟩
    have H4 := Lib.hid (H3.out.below hb)
    have HM4 := Lib.hid (HM3.out.later hb)
    clear hc hb
    clear a0 a1 a2 a3 a4 a5 a6 a7 b0 b1
    have a0 := heap_cell H4.out.o 0
    have a1 := heap_cell H4.out.o 1
    have a2 := heap_cell H4.out.o 2
    have a3 := heap_cell H4.out.o 3
    have a4 := heap_cell H4.out.o 4
    have a5 := heap_cell H4.out.o 5
    have a6 := heap_cell H4.out.o 6
    have a7 := heap_cell H4.out.o 7
    simp at a0 a1 a2 a3 a4 a5 a6 a7
    have b0 := heap_cell H4.out.p 0
    have b1 := heap_cell H4.out.p 1
    simp at b0 b1
    have hc := rLoad_any la xs lc at_ rg k t n arr ka ks kc va vs vc p0 w4 H4.out.x g1 H4.out.k g2 h0 h1
    rw [HEQ.out.2.2.2.2.1, HEQ.out.2.2.2.2.2.1] at hc
    go_wp2_with fail
    refine hc.mono ?_
    rintro e w5 ⟨rfl, hb⟩
    have H5 := Lib.hid (H4.out.below hb)
    have HM5 := Lib.hid (HM4.out.later hb)
    clear hc hb
    clear a0 a1 a2 a3 a4 a5 a6 a7 b0 b1
    have a0 := heap_cell H5.out.o 0
    have a1 := heap_cell H5.out.o 1
    have a2 := heap_cell H5.out.o 2
    have a3 := heap_cell H5.out.o 3
    have a4 := heap_cell H5.out.o 4
    have a5 := heap_cell H5.out.o 5
    have a6 := heap_cell H5.out.o 6
    have a7 := heap_cell H5.out.o 7
    simp at a0 a1 a2 a3 a4 a5 a6 a7
    have b0 := heap_cell H5.out.p 0
    have b1 := heap_cell H5.out.p 1
    simp at b0 b1
    have a7' : (w5.alloc (.cells #[] 28)).cell? ⟨w.heap.size, 7, none⟩ = some (.slice va vs.length vc) := cell_alloc_old _ a7
    go_wp2_with (at_builtin; refine wpList_append_reads rfl _ _ 22 rfl w5.heap.size 28 i0 (.int .u64 0) 8 Tryd.underlying22 hi0 hz0 hz1 hz2 rfl _ _ _ rfl (World.ownsRow_made w5 #[] 0 (Nat.le_refl _) (by decide) rfl) va vs vc rfl (H5.out.v.below ((Below.refl _ _).alloc (Nat.le_refl _) _)) hv0 (by unfold maxLen; omega) (by omega) (by simp) ?_)
    intro v6 w6 hown hgrow _
    have hb : Below w5.heap.size w5 w6 := ((Below.refl w5.heap.size w5).alloc (Nat.le_refl _) (.cells #[] 28)).grown hgrow (by simp) (fun k e => by simp [Value.ownBlock] at e; omega)
    have ho6 : w6.ownsRow w5.heap.size 28 1 v6 vs.length (vs.map (Value.int .u64)) := by simpa using hown
    obtain ⟨wa, wc, rfl, hrw, hwb, _⟩ := owns_reads ho6
    have H6 := Lib.hid (H5.out.below hb)
    have HM6 := Lib.hid (HM5.out.later hb)
    have HWA := Lib.hid (And.intro hrw hwb)
    have HS5 := Lib.hid H5.out.b.size
    clear hown hgrow hb ho6 hrw hwb a7'
    clear a0 a1 a2 a3 a4 a5 a6 a7 b0 b1
    have a0 := heap_cell H6.out.o 0
    have a1 := heap_cell H6.out.o 1
    have a2 := heap_cell H6.out.o 2
    have a3 := heap_cell H6.out.o 3
    have a4 := heap_cell H6.out.o 4
    have a5 := heap_cell H6.out.o 5
    have a6 := heap_cell H6.out.o 6
    have a7 := heap_cell H6.out.o 7
    simp at a0 a1 a2 a3 a4 a5 a6 a7
    have b0 := heap_cell H6.out.p 0
    have b1 := heap_cell H6.out.p 1
    simp at b0 b1
    have hst := Store_any (W.heap.size + 1) W.heap.size xs at_ rg k t n arr ka ks kc va vs vc p0 p1 w6 HM6.out H6.out.k g2 H6.out.v g3 hv0 hk0 (H6.out.lk.imp_right fun hq q e => by have := hq q e; have := HSZ.out; omega) (H6.out.lv.imp_right fun hq q e => by have := hq q e; have := HSZ.out; omega) h0 h1
    rw [HEQ.out.2.2.2.2.2.2.1, HEQ.out.2.2.2.2.2.2.2] at hst
    go_wp2_with fail
    refine hst.mono ?_
    rintro e w7 ⟨x1, x2, x4, x5, x6, x3, y1, y2, l1, l2, c1, c2, rfl, hg7, hM7, hS7⟩
    have H7 := Lib.hid (H6.out.grown hg7 (by have := HSZ.out; omega))
    have HR7 := HWA.out.1.grown_or hg7 (.inr fun q e => by have := (HWA.out.2 q e).1; have := heap_lt HM5.out.1; omega)
    clear hst hg7
    clear a0 a1 a2 a3 a4 a5 a6 a7 b0 b1
    have hbA : Below w7.heap.size w7 (w7.alloc (.cells #[.int .i64 x1, .int .i64 x2, .bool x3, .int .i64 x4, .int .i64 x5, .int .i64 x6, .slice y1 l1 c1, .slice y2 l2 c2] 27)) := (Below.refl _ _).alloc (Nat.le_refl _) _
    have hA8 := heap_alloc_eq w7 (.cells #[.int .i64 x1, .int .i64 x2, .bool x3, .int .i64 x4, .int .i64 x5, .int .i64 x6, .slice y1 l1 c1, .slice y2 l2 c2] 27)
    have H8 := Lib.hid (H7.out.below hbA)
    have HM8 := hM7.later hbA
    have HR8 := HR7.below hbA
    have hst := rStore_any la xs lc at_ rg k t n arr ka ks kc va vs vc p0 p1 (w7.alloc (.cells #[.int .i64 x1, .int .i64 x2, .bool x3, .int .i64 x4, .int .i64 x5, .int .i64 x6, .slice y1 l1 c1, .slice y2 l2 c2] 27)) H8.out.x g1 H8.out.k g2 H8.out.v g3 hv0 h0 h1
    rw [HEQ.out.2.2.2.2.2.2.1, HEQ.out.2.2.2.2.2.2.2] at hst
    have HX := Lib.hid (And.intro hS7 (And.intro hbA (And.intro hA8 (And.intro HM8 HR8))))
    clear hS7 hbA hA8 HM8 HR8 HR7 hM7
    have a0 := heap_cell H8.out.o 0
    have a1 := heap_cell H8.out.o 1
    have a2 := heap_cell H8.out.o 2
    have a3 := heap_cell H8.out.o 3
    have a4 := heap_cell H8.out.o 4
    have a5 := heap_cell H8.out.o 5
    have a6 := heap_cell H8.out.o 6
    have a7 := heap_cell H8.out.o 7
    simp at a0 a1 a2 a3 a4 a5 a6 a7
    have b0 := heap_cell H8.out.p 0
    have b1 := heap_cell H8.out.p 1
    simp at b0 b1
    go_wp2_with fail
    refine hst.mono ?_
    rintro e w9 ⟨x1', x2', x4', x5', x6', x3', z1, z2, m1, m2, d1, d2, na, nc, rfl, hb9, hR9, hS9⟩
    have H9 := Lib.hid (H8.out.below hb9)
    obtain ⟨rfl, rfl, rfl, rfl, rfl, rfl, K, V, hl1, hm1, hy1, hz1', hl2, hm2, hy2, hz2', hKl, hVl⟩ := HX.out.1.two hS9
    subst hl1 hm1 hl2 hm2
    have hbB : Below w9.heap.size w9 (w9.alloc (.cells #[.int .i64 x1, .int .i64 x2, .bool x3, .int .i64 x4, .int .i64 x5, .int .i64 x6, .slice z1 K.length d1, .slice z2 V.length d2] 27)) := (Below.refl _ _).alloc (Nat.le_refl _) _
    have hb79 := HX.out.2.1.trans (hb9.mono HX.out.2.1.size)
    have hbF := hb9.trans (hbB.mono hb9.size)
    have hb7F := hb79.trans (hbB.mono hb79.size)
    have HF : Hid (PFin w la xs ka ks va vs #[.int .i64 at_, .int .i64 rg, .bool arr, .int .i64 k, .int .i64 t, .int .i64 n, .slice ka ks.length kc, .slice va vs.length vc] #[.int .u64 p0, .int .u64 p1] (W.heap.size + 1) W.heap.size ys wa na y1 z1 K y2 z2 V w7.heap.size w9.heap.size #[.int .i64 x1, .int .i64 x2, .bool x3, .int .i64 x4, .int .i64 x5, .int .i64 x6, .slice y1 K.length c1, .slice y2 V.length c2] #[.int .i64 x1, .int .i64 x2, .bool x3, .int .i64 x4, .int .i64 x5, .int .i64 x6, .slice z1 K.length d1, .slice z2 V.length d2] (w9.alloc (.cells #[.int .i64 x1, .int .i64 x2, .bool x3, .int .i64 x4, .int .i64 x5, .int .i64 x6, .slice z1 K.length d1, .slice z2 V.length d2] 27))) :=
      Lib.hid ⟨H8.out.below hbF, HX.out.2.2.2.1.later hbF, HX.out.2.2.2.2.below hbF, hR9.below hbB, hy1.below hb7F, hz1'.below hbB, hy2.below hb7F, hz2'.below hbB, heap_below hbF HX.out.2.2.1 (heap_lt HX.out.2.2.1), heap_alloc_eq _ _⟩
    have G2 : K.length ≤ 100 ∧ V.length ≤ 100 := by omega
    have HG2 := Lib.hid G2
    clear hst hS9 hb9 hR9 hy1 hz1' hy2 hz2' hbB hb79 hbF hb7F HX hKl hVl G2
    clear a0 a1 a2 a3 a4 a5 a6 a7 b0 b1
    have a0 := heap_cell HF.out.p.o 0
    have a1 := heap_cell HF.out.p.o 1
    have a2 := heap_cell HF.out.p.o 2
    have a3 := heap_cell HF.out.p.o 3
    have a4 := heap_cell HF.out.p.o 4
    have a5 := heap_cell HF.out.p.o 5
    have a6 := heap_cell HF.out.p.o 6
    have a7 := heap_cell HF.out.p.o 7
    simp at a0 a1 a2 a3 a4 a5 a6 a7
    have b0 := heap_cell HF.out.p.p 0
    have b1 := heap_cell HF.out.p.p 1
    simp at b0 b1
    have hc := LoadNil_any at_ rg k t n arr ka ks kc va vs vc p0 (w9.alloc (.cells #[.int .i64 x1, .int .i64 x2, .bool x3, .int .i64 x4, .int .i64 x5, .int .i64 x6, .slice z1 K.length d1, .slice z2 V.length d2] 27)) HF.out.p.k g2 h0 h1
    rw [HEQ.out.2.1] at hc
    go_wp2_with fail
    refine hc.mono ?_
    rintro e w10 ⟨rfl, hb⟩
    have HF10 := Lib.hid (HF.out.below hb)
    clear hc hb
    clear a0 a1 a2 a3 a4 a5 a6 a7 b0 b1
    have a0 := heap_cell HF10.out.p.o 0
    have a1 := heap_cell HF10.out.p.o 1
    have a2 := heap_cell HF10.out.p.o 2
    have a3 := heap_cell HF10.out.p.o 3
    have a4 := heap_cell HF10.out.p.o 4
    have a5 := heap_cell HF10.out.p.o 5
    have a6 := heap_cell HF10.out.p.o 6
    have a7 := heap_cell HF10.out.p.o 7
    simp at a0 a1 a2 a3 a4 a5 a6 a7
    have b0 := heap_cell HF10.out.p.p 0
    have b1 := heap_cell HF10.out.p.p 1
    simp at b0 b1
    have hc := StoreNil_any at_ rg k t n arr ka ks kc va vs vc p0 p1 w10 HF10.out.p.k g2 h0 h1
    rw [HEQ.out.2.1] at hc
    go_wp2_with fail
    refine hc.mono ?_
    rintro e w11 ⟨rfl, hb⟩
    have HF11 := Lib.hid (HF10.out.below hb)
    have hbC : Below w11.heap.size w11 (w11.alloc (.cells #[.int .i64 0, .int .i64 0, .bool false, .int .i64 0, .int .i64 0, .int .i64 0, .slice none 0 0, .slice none 0 0] 27)) := (Below.refl _ _).alloc (Nat.le_refl _) _
    have HF12 := Lib.hid (HF11.out.below hbC)
    clear hc hb hbC
    clear a0 a1 a2 a3 a4 a5 a6 a7 b0 b1
    clear H0 H1 H2 H3 H4 H5 H6 H7 H8 H9 HM1 HM2 HM3 HM4 HM5 HM6 HF HF10 HF11 HWA HS5
    generalize w9.heap.size = B9 at *
    generalize w7.heap.size = A7 at *
    rcases HEN.out with ⟨rfl, rfl⟩ | ⟨rfl, rfl⟩
    all_goals
      go_wp2
      have hF := HF12.out
      clear HF12
      generalize w11.alloc _ = wF at hF ⊢
      obtain ⟨s0, s1, s2, s3, s4, s5, s6, s7, s8, s9, s10, s11, s12, s13, s14, s15, s16, s17, s18, s19, s20, s21, s22, s23, hF⟩ := fin_cells hF
      have hFd : PFin w la xs ka ks va vs #[.int .i64 at_, .int .i64 rg, .bool arr, .int .i64 k, .int .i64 t, .int .i64 n, .slice ka ks.length kc, .slice va vs.length vc] #[.int .u64 p0, .int .u64 p1] (W.heap.size + 1) W.heap.size ys wa na y1 z1 K y2 z2 V A7 B9 #[.int .i64 x1, .int .i64 x2, .bool x3, .int .i64 x4, .int .i64 x5, .int .i64 x6, .slice y1 K.length c1, .slice y2 V.length c2] #[.int .i64 x1, .int .i64 x2, .bool x3, .int .i64 x4, .int .i64 x5, .int .i64 x6, .slice z1 K.length d1, .slice z2 V.length d2] wF.drew := hF.below ⟨rfl, rfl, rfl, Nat.le_refl _, fun _ _ => rfl⟩
      go_region_held3 (fun w' => w'.cell? ⟨w.heap.size, 0, none⟩ = some (.int .i64 at_) ∧ w'.cell? ⟨w.heap.size, 1, none⟩ = some (.int .i64 rg) ∧ w'.cell? ⟨w.heap.size, 2, none⟩ = some (.bool arr) ∧ w'.cell? ⟨w.heap.size, 3, none⟩ = some (.int .i64 k) ∧ w'.cell? ⟨w.heap.size, 4, none⟩ = some (.int .i64 t) ∧ w'.cell? ⟨w.heap.size, 5, none⟩ = some (.int .i64 n) ∧ w'.cell? ⟨w.heap.size, 6, none⟩ = some (.slice ka ks.length kc) ∧ w'.cell? ⟨w.heap.size, 7, none⟩ = some (.slice va vs.length vc) ∧ w'.cell? ⟨A7, 0, none⟩ = some (.int .i64 x1) ∧ w'.cell? ⟨A7, 1, none⟩ = some (.int .i64 x2) ∧ w'.cell? ⟨A7, 2, none⟩ = some (.bool x3) ∧ w'.cell? ⟨A7, 3, none⟩ = some (.int .i64 x4) ∧ w'.cell? ⟨A7, 4, none⟩ = some (.int .i64 x5) ∧ w'.cell? ⟨A7, 5, none⟩ = some (.int .i64 x6) ∧ w'.cell? ⟨A7, 6, none⟩ = some (.slice y1 K.length c1) ∧ w'.cell? ⟨A7, 7, none⟩ = some (.slice y2 V.length c2) ∧ w'.cell? ⟨B9, 0, none⟩ = some (.int .i64 x1) ∧ w'.cell? ⟨B9, 1, none⟩ = some (.int .i64 x2) ∧ w'.cell? ⟨B9, 2, none⟩ = some (.bool x3) ∧ w'.cell? ⟨B9, 3, none⟩ = some (.int .i64 x4) ∧ w'.cell? ⟨B9, 4, none⟩ = some (.int .i64 x5) ∧ w'.cell? ⟨B9, 5, none⟩ = some (.int .i64 x6) ∧ w'.cell? ⟨B9, 6, none⟩ = some (.slice z1 K.length d1) ∧ w'.cell? ⟨B9, 7, none⟩ = some (.slice z2 V.length d2) ∧ PFin w la xs ka ks va vs #[.int .i64 at_, .int .i64 rg, .bool arr, .int .i64 k, .int .i64 t, .int .i64 n, .slice ka ks.length kc, .slice va vs.length vc] #[.int .u64 p0, .int .u64 p1] (W.heap.size + 1) W.heap.size ys wa na y1 z1 K y2 z2 V A7 B9 #[.int .i64 x1, .int .i64 x2, .bool x3, .int .i64 x4, .int .i64 x5, .int .i64 x6, .slice y1 K.length c1, .slice y2 V.length c2] #[.int .i64 x1, .int .i64 x2, .bool x3, .int .i64 x4, .int .i64 x5, .int .i64 x6, .slice z1 K.length d1, .slice z2 V.length d2] w')
        (first | assumption | (go_keep; done) | exact fin_keep (by assumption) (by assumption) | exact fin_keep (by assumption) (fin_last (by assumption)))
        (first
          | (go_at_call 4; refine (fixed_any _).mono ?_; rintro e w' ⟨rfl, hb'⟩)
          | (go_at_call 12; refine (fin_obj x1 x2 x4 x5 x6 x3 c1 c2 d1 d2 (fin_last (by assumption)) HG2.out.1 HG2.out.2).mono ?_; rintro e w' ⟨rfl, hb'⟩)
          | (go_at_call 14; refine (fin_all (fin_last (by assumption))).mono ?_; rintro e w' ⟨aA, cA, rfl, hb', hrA⟩)
          | (go_at_call 13; with_reducible refine (fin_next _ _ _ (fin_last (by assumption)) (by assumption)).mono ?_; rintro e w' ⟨rfl, hb'⟩)
          | (go_at_call 13; with_reducible refine (fin_was _ _ (fin_last (by assumption)) g3).mono ?_; rintro e w' ⟨rfl, hb'⟩)
          | (go_at_call 16; refine (fin_ptr (fin_last (by assumption)) g2).mono ?_; rintro e w' ⟨aP, cP, rfl, hb', hrP⟩)
          | (go_at_call 17; refine (fin_rptr _ (fin_last (by assumption)) g2 (by assumption)).mono ?_; rintro e w' ⟨aQ, cQ, rfl, hb', hrQ, hrP2⟩)
          | (go_at_call 15; refine (fin_psame _ _ _ _ g2 (by assumption) (by assumption)).mono ?_; rintro e w' ⟨rfl, hb'⟩))
      rename_i hS
      have hBe := (fin_last hS).p.b
      clear hS
      go_wp2
      go_ret
      exact ⟨rfl, hBe⟩
  · have a6 := heap_cell hO1 6
    have a7 := heap_cell hO1 7
    simp at a6 a7
    clear hX hK hV hO1 hO2 hszW hk0 hv0 hT
    rcases (show 300 < xs.length ∨ (xs.length ≤ 300 ∧ 100 < ks.length) ∨ (xs.length ≤ 300 ∧ ks.length ≤ 100 ∧ 100 < vs.length) by omega) with q1 | ⟨q1, q2⟩ | ⟨q1, q2, q3⟩
    all_goals
      clear hg
      go_enter Tryd.func3, Tryd.ntmps3
      go_wp2_with fail
      rw [← HW.out]
      go_wp2_with fail
      refine (fixed_any _).mono ?_
      rintro e w6 ⟨rfl, hb6⟩
      have hB6 := hbo.trans (hb6.mono hbo.size)
      clear hb6
      go_wp2
      go_ret
      exact ⟨rfl, hB6⟩
end Go.Proofs.YtekkplledcffkaaDoor
