/-
  The walk of WordsPlay.
-/
import Derived.Test.YtennhifmhlmjhaaRef1
import Derived.Test.YtennhifmhlmjhaaApart
namespace Go.Proofs.Ytennhifmhlmjhaa
open Go Go.RowKit

/-- A slice of acts that came in. -/
def ActsAt (w : World) (a : Option Addr) (m : Nat) (K P Q T V : Nat → Int) : Prop :=
  ∀ i, i < m → ∃ b off, a = some ⟨b, off, none⟩ ∧ w.cell? ⟨b, off + i * 5, none⟩ = some (.int .i64 (K i)) ∧ w.cell? ⟨b, off + i * 5 + 1, none⟩ = some (.int .i64 (P i)) ∧ w.cell? ⟨b, off + i * 5 + 2, none⟩ = some (.int .i64 (Q i)) ∧
    w.cell? ⟨b, off + i * 5 + 3, none⟩ = some (.int .i64 (T i)) ∧ w.cell? ⟨b, off + i * 5 + 4, none⟩ = some (.int .u64 (V i))

/-- What holds between two acts. -/
def PlayI (w0 : World) (n b g : Nat) (x : Value) (wr : World) : Prop :=
  ∃ (xs : List Int) (ax : Option Addr) (cx : Nat), x = .slice ax xs.length cx ∧ xs.length = n ∧ MemAt wr b g xs ∧ Reads .u64 wr ax xs ∧ ax ≠ none ∧ (∀ q, ax = some q → q.block ≠ g) ∧ Below w0.heap.size w0 wr

set_option maxRecDepth 100000 in
set_option maxHeartbeats 8000000 in
theorem WordsPlay_any (n : Int) (a : Option Addr) (m cap : Nat) (K P Q T V : Nat → Int) (at_ : Int) (w : World) (hA : ActsAt w a m K P Q T V) :
    Calls Try.prog 6 #[.int .i64 n, .slice a m cap, .int .i64 at_] w fun e w' => e = .returned (.bool true) ∧ Below w.heap.size w w' := by
  rcases (show ((300 < n ∧ n ≤ 16384) ∨ 60 < m) ∨ (m ≤ 60 ∧ n < 0) ∨ (m ≤ 60 ∧ 16384 < n) ∨ (m ≤ 60 ∧ 0 ≤ n ∧ n ≤ 300) by omega) with hc | ⟨h1, h2⟩ | ⟨h1, h2⟩ | ⟨h1, h2, h3⟩
  · rcases hc with ⟨h1, h2⟩ | h1
    all_goals
      go_enter Try.func6, Try.ntmps6
      go_wp2_with (go_at_call 11; refine (wfixed_any _).mono ?_; rintro e w5 ⟨rfl, hb5⟩)
      all_goals
        go_ret
        exact ⟨rfl, hb5⟩
  · go_enter Try.func6, Try.ntmps6
    go_wp2_with (first | (go_at_call 7; refine (wNew_bad _ _ (.inl h2)).mono ?_; rintro e w1 ⟨rfl, rfl⟩) | (go_at_call 15; refine (rNew_bad _ _ (.inl h2)).mono ?_; rintro e w2 ⟨rfl, hb2⟩) | (go_at_call 11; refine (wfixed_any _).mono ?_; rintro e w5 ⟨rfl, hb5⟩))
    go_ret
    exact ⟨rfl, hb2.trans (hb5.mono hb2.size)⟩
  · go_enter Try.func6, Try.ntmps6
    go_wp2_with (first | (go_at_call 7; refine (wNew_bad _ _ (.inr h2)).mono ?_; rintro e w1 ⟨rfl, rfl⟩) | (go_at_call 15; refine (rNew_bad _ _ (.inr h2)).mono ?_; rintro e w2 ⟨rfl, hb2⟩) | (go_at_call 11; refine (wfixed_any _).mono ?_; rintro e w5 ⟨rfl, hb5⟩))
    go_ret
    exact ⟨rfl, hb2.trans (hb5.mono hb2.size)⟩
  · obtain ⟨n, rfl⟩ := Int.eq_ofNat_of_zero_le h2
    go_enter Try.func6, Try.ntmps6
    go_wp2_with fail
    refine (wNew_any n _ (by omega)).mono ?_
    rintro e w1 ⟨rfl, hb1, hM1⟩
    go_wp2_with fail
    refine (rNew_any n _ (by omega)).mono ?_
    rintro e w2 ⟨ax, cx, rfl, hb2, hrx, hax, hbx⟩
    have hsz1 := heap_lt hM1.2.1
    have hP : PlayI w n (w.heap.size + 1) w.heap.size (.slice ax n cx) w2 :=
      ⟨List.replicate n 0, ax, cx, by simp, by simp, hM1.later hb2, hrx, hax, fun q hq => by
        rcases hbx with h | h
        · exact absurd (h.symm.trans hq) (by simp)
        · have := h q hq; omega, hb1.trans (hb2.mono hb1.size)⟩
    rw [List.length_replicate]
    clear hb1 hb2 hM1 hrx hax hbx
    go_wp2
    go_loopw [9, 13, 14, 15, 16, 56] (fun x s13 s14 s15 s16 i wr => ∃ j : Nat, j ≤ m ∧ i = .int .i64 j ∧ PlayI w n (w.heap.size + 1) w.heap.size x wr) (fun x s13 s14 s15 s16 i _ => m - (intOf i).toNat)
    case atStart => exact ⟨0, Nat.zero_le _, rfl, hP⟩
    case round =>
      obtain ⟨j, hj, rfl, hP⟩ := hrel
      by_cases hlt : j < m
      · obtain ⟨b, off, rfl, e0, e1, e2, e3, e4⟩ := hA j hlt
        obtain ⟨xs, ax, cx, hx, hxl, hM, hrx, hax, hbx, hB⟩ := hP
        subst hx
        have HXL := Lib.hid hxl
        clear hxl
        obtain ⟨k0, hk⟩ : ∃ q, K j = q := ⟨_, rfl⟩
        obtain ⟨p0, hp⟩ : ∃ q, P j = q := ⟨_, rfl⟩
        obtain ⟨q0, hq⟩ : ∃ q, Q j = q := ⟨_, rfl⟩
        obtain ⟨t0, ht⟩ : ∃ q, T j = q := ⟨_, rfl⟩
        obtain ⟨v0, hv⟩ : ∃ q, V j = q := ⟨_, rfl⟩
        rw [hk] at e0
        rw [hp] at e1
        rw [hq] at e2
        rw [ht] at e3
        rw [hv] at e4
        have f0 := (hB.cell (cell_lt e0)).trans e0
        have f1 := (hB.cell (cell_lt e1)).trans e1
        have f2 := (hB.cell (cell_lt e2)).trans e2
        have f3 := (hB.cell (cell_lt e3)).trans e3
        have f4 := (hB.cell (cell_lt e4)).trans e4
        clear hk hp hq ht hv e0 e1 e2 e3 e4 hA
        rcases (show k0 = 0 ∨ k0 = 1 ∨ k0 = 2 ∨ k0 = 3 ∨ (k0 ≠ 0 ∧ k0 ≠ 1 ∧ k0 ≠ 2 ∧ k0 ≠ 3) by omega) with rfl | rfl | rfl | rfl | ⟨g0, g1, g2, g3⟩
        · have hOB := heap_alloc_eq wr (.cells #[.int .i64 0, .int .i64 p0, .int .i64 q0, .int .i64 t0, .int .u64 v0] 47)
          have hBo : Below wr.heap.size wr (wr.alloc (.cells #[.int .i64 0, .int .i64 p0, .int .i64 q0, .int .i64 t0, .int .u64 v0] 47)) := (Below.refl _ _).alloc (Nat.le_refl _) _
          have hM0 := hM.later hBo
          have hr0 := hrx.below hBo
          have hB0 := hB.trans (hBo.mono hB.size)
          have hng : wr.heap.size ≠ w.heap.size := by have := heap_lt hM.2.1; omega
          go_wp2_with fail
          refine (wWrite_any _ _ _ _ _ _ hM0).mono ?_
          rintro e wA ⟨rfl, hgA, hMA⟩
          have hOA := heap_grown hgA hOB hng
          have d0 := heap_cell hOA 0
          have d1 := heap_cell hOA 1
          have d2 := heap_cell hOA 2
          have d3 := heap_cell hOA 3
          have d4 := heap_cell hOA 4
          simp at d0 d1 d2 d3 d4
          have hBA := below_grown hB0 hgA hB0.size (Nat.le_refl _)
          have hrA : Reads .u64 wA ax xs := hr0.grown hgA (fun q hq => hbx q hq)
          clear hgA hOA hOB hM0 hr0 hB0 hBo hM hrx f0 f1 f2 f3 f4
          go_wp2_with fail
          refine (rWrite_any ax cx xs p0 v0 _ hrA (by have := HXL.out; omega) hax).mono ?_
          rintro e wB ⟨ax', cx', rfl, hbB, hrB, haB, hbxB0⟩
          have hbxB : ∀ q, ax' = some q → q.block ≠ w.heap.size := fun q hq => by
            rcases hbxB0 with h | h
            · exact hbx q (h.symm.trans hq)
            · have h9 := h q hq; have h8 := heap_lt hMA.2.1; omega
          have hMB := hMA.later hbB
          have hBB := hBA.trans (hbB.mono hBA.size)
          obtain ⟨ys, hys⟩ : ∃ ys, wrL xs p0 v0 = ys := ⟨_, rfl⟩
          obtain ⟨E0, hE0⟩ : ∃ E0, wrE xs.length p0 = E0 := ⟨_, rfl⟩
          have hyl := Lib.hid (show ys.length = n by rw [← hys, wrL_length]; exact HXL.out)
          rw [hys] at hMB hrB ⊢
          rw [hE0]
          clear hys hE0 hbB hrA hBA hMA hax hbx hbxB0 d0 d1 d2 d3 d4
          go_wp2_with fail
          refine (wLen_any _ _ _ _ hMB).mono ?_
          rintro e wC ⟨rfl, rfl⟩
          have hyb : ((ys.length : Int) != (n : Int)) = false := by rw [hyl.out]; simp
          go_wp2_with fail
          refine (wAll_any _ _ _ _ hMB).mono ?_
          rintro e wD ⟨vd, rfl, hbD, hoD⟩
          obtain ⟨ad, cd, rfl, hrD, _⟩ := owns_reads hoD
          have hBD := hBB.trans (hbD.mono hBB.size)
          have hMD := hMB.later hbD
          have hrBD := hrB.below hbD
          clear hoD hbD hMB hrB hBB
          go_wp2_with fail
          refine (Same_any _ _ _ _ ys ys _ hrD hrBD (by have := hyl.out; omega)).mono ?_
          rintro e wE ⟨rfl, hbE⟩
          have hFin : PlayI w n (w.heap.size + 1) w.heap.size (.slice ax' ys.length cx') wE := ⟨ys, ax', cx', rfl, hyl.out, hMD.later hbE, hrBD.below hbE, haB, hbxB, hBD.trans (hbE.mono hBD.size)⟩
          clear hMD hrBD hrD hbE hBD haB hbxB
          go_wp2
          go_roundw
          case rel => exact ⟨j + 1, by omega, by go_num, hFin⟩
          case measure => simp [intOf]; omega
        · have hOB := heap_alloc_eq wr (.cells #[.int .i64 1, .int .i64 p0, .int .i64 q0, .int .i64 t0, .int .u64 v0] 47)
          have hBo : Below wr.heap.size wr (wr.alloc (.cells #[.int .i64 1, .int .i64 p0, .int .i64 q0, .int .i64 t0, .int .u64 v0] 47)) := (Below.refl _ _).alloc (Nat.le_refl _) _
          have hM0 := hM.later hBo
          have hr0 := hrx.below hBo
          have hB0 := hB.trans (hBo.mono hB.size)
          have hng : wr.heap.size ≠ w.heap.size := by have := heap_lt hM.2.1; omega
          go_wp2_with fail
          refine (wFill_any _ _ _ _ _ _ _ hM0).mono ?_
          rintro e wA ⟨rfl, hgA, hMA⟩
          have hOA := heap_grown hgA hOB hng
          have d0 := heap_cell hOA 0
          have d1 := heap_cell hOA 1
          have d2 := heap_cell hOA 2
          have d3 := heap_cell hOA 3
          have d4 := heap_cell hOA 4
          simp at d0 d1 d2 d3 d4
          have hBA := below_grown hB0 hgA hB0.size (Nat.le_refl _)
          have hrA : Reads .u64 wA ax xs := hr0.grown hgA (fun q hq => hbx q hq)
          clear hgA hOA hOB hM0 hr0 hB0 hBo hM hrx f0 f1 f2 f3 f4
          go_wp2_with fail
          refine (rFill_any ax cx xs p0 q0 v0 _ hrA (by have := HXL.out; omega) hax).mono ?_
          rintro e wB ⟨ax', cx', rfl, hbB, hrB, haB, hbxB0⟩
          have hbxB : ∀ q, ax' = some q → q.block ≠ w.heap.size := fun q hq => by
            rcases hbxB0 with h | h
            · exact hbx q (h.symm.trans hq)
            · have h9 := h q hq; have h8 := heap_lt hMA.2.1; omega
          have hMB := hMA.later hbB
          have hBB := hBA.trans (hbB.mono hBA.size)
          obtain ⟨ys, hys⟩ : ∃ ys, fillL xs p0 q0 v0 = ys := ⟨_, rfl⟩
          obtain ⟨E0, hE0⟩ : ∃ E0, fillE xs.length p0 q0 = E0 := ⟨_, rfl⟩
          have hyl := Lib.hid (show ys.length = n by rw [← hys, fillL_length]; exact HXL.out)
          rw [hys] at hMB hrB ⊢
          rw [hE0]
          clear hys hE0 hbB hrA hBA hMA hax hbx hbxB0 d0 d1 d2 d3 d4
          go_wp2_with fail
          refine (wLen_any _ _ _ _ hMB).mono ?_
          rintro e wC ⟨rfl, rfl⟩
          have hyb : ((ys.length : Int) != (n : Int)) = false := by rw [hyl.out]; simp
          go_wp2_with fail
          refine (wAll_any _ _ _ _ hMB).mono ?_
          rintro e wD ⟨vd, rfl, hbD, hoD⟩
          obtain ⟨ad, cd, rfl, hrD, _⟩ := owns_reads hoD
          have hBD := hBB.trans (hbD.mono hBB.size)
          have hMD := hMB.later hbD
          have hrBD := hrB.below hbD
          clear hoD hbD hMB hrB hBB
          go_wp2_with fail
          refine (Same_any _ _ _ _ ys ys _ hrD hrBD (by have := hyl.out; omega)).mono ?_
          rintro e wE ⟨rfl, hbE⟩
          have hFin : PlayI w n (w.heap.size + 1) w.heap.size (.slice ax' ys.length cx') wE := ⟨ys, ax', cx', rfl, hyl.out, hMD.later hbE, hrBD.below hbE, haB, hbxB, hBD.trans (hbE.mono hBD.size)⟩
          clear hMD hrBD hrD hbE hBD haB hbxB
          go_wp2
          go_roundw
          case rel => exact ⟨j + 1, by omega, by go_num, hFin⟩
          case measure => simp [intOf]; omega
        · have hOB := heap_alloc_eq wr (.cells #[.int .i64 2, .int .i64 p0, .int .i64 q0, .int .i64 t0, .int .u64 v0] 47)
          have hBo : Below wr.heap.size wr (wr.alloc (.cells #[.int .i64 2, .int .i64 p0, .int .i64 q0, .int .i64 t0, .int .u64 v0] 47)) := (Below.refl _ _).alloc (Nat.le_refl _) _
          have hM0 := hM.later hBo
          have hr0 := hrx.below hBo
          have hB0 := hB.trans (hBo.mono hB.size)
          have hng : wr.heap.size ≠ w.heap.size := by have := heap_lt hM.2.1; omega
          go_wp2_with fail
          refine (wMove_any _ _ _ _ _ _ _ hM0).mono ?_
          rintro e wA ⟨rfl, hgA, hMA⟩
          have hOA := heap_grown hgA hOB hng
          have d0 := heap_cell hOA 0
          have d1 := heap_cell hOA 1
          have d2 := heap_cell hOA 2
          have d3 := heap_cell hOA 3
          have d4 := heap_cell hOA 4
          simp at d0 d1 d2 d3 d4
          have hBA := below_grown hB0 hgA hB0.size (Nat.le_refl _)
          have hrA : Reads .u64 wA ax xs := hr0.grown hgA (fun q hq => hbx q hq)
          clear hgA hOA hOB hM0 hr0 hB0 hBo hM hrx f0 f1 f2 f3 f4
          go_wp2_with fail
          refine (rMove_any ax cx xs p0 q0 t0 _ hrA (by have := HXL.out; omega) hax).mono ?_
          rintro e wB ⟨ax', cx', rfl, hbB, hrB, haB, hbxB0⟩
          have hbxB : ∀ q, ax' = some q → q.block ≠ w.heap.size := fun q hq => by
            rcases hbxB0 with h | h
            · exact hbx q (h.symm.trans hq)
            · have h9 := h q hq; have h8 := heap_lt hMA.2.1; omega
          have hMB := hMA.later hbB
          have hBB := hBA.trans (hbB.mono hBA.size)
          obtain ⟨ys, hys⟩ : ∃ ys, moveL xs p0 q0 t0 = ys := ⟨_, rfl⟩
          obtain ⟨E0, hE0⟩ : ∃ E0, moveE xs.length p0 q0 t0 = E0 := ⟨_, rfl⟩
          have hyl := Lib.hid (show ys.length = n by rw [← hys, moveL_length]; exact HXL.out)
          rw [hys] at hMB hrB ⊢
          rw [hE0]
          clear hys hE0 hbB hrA hBA hMA hax hbx hbxB0 d0 d1 d2 d3 d4
          go_wp2_with fail
          refine (wLen_any _ _ _ _ hMB).mono ?_
          rintro e wC ⟨rfl, rfl⟩
          have hyb : ((ys.length : Int) != (n : Int)) = false := by rw [hyl.out]; simp
          go_wp2_with fail
          refine (wAll_any _ _ _ _ hMB).mono ?_
          rintro e wD ⟨vd, rfl, hbD, hoD⟩
          obtain ⟨ad, cd, rfl, hrD, _⟩ := owns_reads hoD
          have hBD := hBB.trans (hbD.mono hBB.size)
          have hMD := hMB.later hbD
          have hrBD := hrB.below hbD
          clear hoD hbD hMB hrB hBB
          go_wp2_with fail
          refine (Same_any _ _ _ _ ys ys _ hrD hrBD (by have := hyl.out; omega)).mono ?_
          rintro e wE ⟨rfl, hbE⟩
          have hFin : PlayI w n (w.heap.size + 1) w.heap.size (.slice ax' ys.length cx') wE := ⟨ys, ax', cx', rfl, hyl.out, hMD.later hbE, hrBD.below hbE, haB, hbxB, hBD.trans (hbE.mono hBD.size)⟩
          clear hMD hrBD hrD hbE hBD haB hbxB
          go_wp2
          go_roundw
          case rel => exact ⟨j + 1, by omega, by go_num, hFin⟩
          case measure => simp [intOf]; omega
        · have hOB := heap_alloc_eq wr (.cells #[.int .i64 3, .int .i64 p0, .int .i64 q0, .int .i64 t0, .int .u64 v0] 47)
          have hBo : Below wr.heap.size wr (wr.alloc (.cells #[.int .i64 3, .int .i64 p0, .int .i64 q0, .int .i64 t0, .int .u64 v0] 47)) := (Below.refl _ _).alloc (Nat.le_refl _) _
          have hM0 := hM.later hBo
          have hr0 := hrx.below hBo
          have hB0 := hB.trans (hBo.mono hB.size)
          have hng : wr.heap.size ≠ w.heap.size := by have := heap_lt hM.2.1; omega
          go_wp2_with fail
          refine (wAll_any _ _ _ _ hM0).mono ?_
          rintro e wD ⟨vd, rfl, hbD, hoD⟩
          obtain ⟨ad, cd, rfl, _, _, _⟩ := owns_reads hoD
          obtain ⟨B, hBeq⟩ : ∃ B, (wr.alloc (.cells #[.int .i64 3, .int .i64 p0, .int .i64 q0, .int .i64 t0, .int .u64 v0] 47)).heap.size = B := ⟨_, rfl⟩
          rw [hBeq] at hoD
          have hbD' : Below B (wr.alloc (.cells #[.int .i64 3, .int .i64 p0, .int .i64 q0, .int .i64 t0, .int .u64 v0] 47)) wD := by rw [← hBeq]; exact hbD
          have HBE := Lib.hid hBeq
          obtain ⟨wo, hwo⟩ : ∃ wo : World, wo = wr.alloc (.cells #[.int .i64 3, .int .i64 p0, .int .i64 q0, .int .i64 t0, .int .u64 v0] 47) := ⟨_, rfl⟩
          have hnn := HXL.out
          rw [← hwo] at hbD' hM0 hr0 hB0 HBE
          clear hbD hBeq hOB hBo hM hrx f0 f1 f2 f3 f4 hB hwo hnn
          go_wp2
          go_loopw [16, 131] (fun s16 i wq => ∃ (q : Nat) (ys : List Int), q ≤ xs.length ∧ i = .int .i64 q ∧ ys.length = xs.length ∧ wq.ownsRow B 24 1 (.slice ad xs.length cd) xs.length (ys.map (Value.int .u64)) ∧ Below B wo wq) (fun s16 i _ => xs.length - (intOf i).toNat)
          case atStart => exact ⟨0, xs, Nat.zero_le _, rfl, rfl, hoD, hbD'⟩
          case round =>
            obtain ⟨q, ys, hq, rfl, hys, hown, hBq⟩ := hrel
            have HYS := Lib.hid hys
            clear hys
            by_cases hlq : q < xs.length
            · obtain ⟨gg, cap3, cur, hshape, hBg, hg⟩ := own_shape hown (by omega)
              simp at hshape
              obtain ⟨rfl, rfl⟩ := hshape
              have hql : q < ys.length := by rw [HYS.out]; exact hlq
              have hcl : wr.cell? ⟨gg, q, none⟩ = some (.int .u64 (ys[q]'hql)) := (hown.cellAt (g := gg) q (by omega)).trans (by simp [hql])
              have hfr := hown.frozenAt (g := gg) q
              obtain ⟨y, hy⟩ : ∃ y, ys[q]'hql = y := ⟨_, rfl⟩
              rw [hy] at hcl
              have hlen := HXL.out
              have hlen2 : xs.length ≤ 300 := by omega
              have i1 : (q : Int) < (xs.length : Int) := by omega
              have hst := fun u => (hown.stored q (.int .u64 u)).1
              have HST := Lib.hid hst
              clear hy hown hg hst hoD hM0 hr0 hB0 hbD' hlen
              go_wp2
              go_roundw
              case rel => exact ⟨q + 1, ys.set q (IntKind.u64.wrap (y + 1)), by omega, by go_num, by rw [List.length_set]; exact HYS.out, by rw [List.map_set]; exact HST.out _, hBq.setCell hBg _⟩
              case measure => simp [intOf]; omega
            · obtain rfl : q = xs.length := by omega
              have hMB : MemAt wr (w.heap.size + 1) w.heap.size xs := hM0.below hBq (by have := heap_lt hM0.1; have := HBE.out; omega) (by have := heap_lt hM0.2.1; have := HBE.out; omega)
              have hbo : Below wo.heap.size wo wr := by rw [HBE.out]; exact hBq
              have hrB := hr0.below hbo
              have hBB : Below w.heap.size w wr := hB0.trans (hbo.mono hB0.size)
              have hyl := HXL
              have haB := hax
              have hbxB := hbx
              clear hM0 hr0 hB0 hax hbx hoD hbD' hown hBq hbo
              go_wp2_with fail
              refine (wLen_any _ _ _ _ hMB).mono ?_
              rintro e wC ⟨rfl, rfl⟩
              have hyb : ((xs.length : Int) != (n : Int)) = false := by rw [hyl.out]; simp
              go_wp2_with fail
              refine (wAll_any _ _ _ _ hMB).mono ?_
              rintro e wD ⟨vd, rfl, hbD, hoD⟩
              obtain ⟨ad, cd, rfl, hrD, _⟩ := owns_reads hoD
              have hBD := hBB.trans (hbD.mono hBB.size)
              have hMD := hMB.later hbD
              have hrBD := hrB.below hbD
              clear hoD hbD hMB hrB hBB
              go_wp2_with fail
              refine (Same_any _ _ _ _ xs xs _ hrD hrBD (by have := hyl.out; omega)).mono ?_
              rintro e wE ⟨rfl, hbE⟩
              have hFin : PlayI w n (w.heap.size + 1) w.heap.size (.slice ax xs.length cx) wE := ⟨xs, ax, cx, rfl, hyl.out, hMD.later hbE, hrBD.below hbE, haB, hbxB, hBD.trans (hbE.mono hBD.size)⟩
              clear hMD hrBD hrD hbE hBD haB hbxB
              go_wp2
              go_roundw
              case rel => exact ⟨j + 1, by omega, by go_num, hFin⟩
              case measure => simp [intOf]; omega
        · have hOB := heap_alloc_eq wr (.cells #[.int .i64 k0, .int .i64 p0, .int .i64 q0, .int .i64 t0, .int .u64 v0] 47)
          have hBo : Below wr.heap.size wr (wr.alloc (.cells #[.int .i64 k0, .int .i64 p0, .int .i64 q0, .int .i64 t0, .int .u64 v0] 47)) := (Below.refl _ _).alloc (Nat.le_refl _) _
          have hM0 := hM.later hBo
          have hr0 := hrx.below hBo
          have hB0 := hB.trans (hBo.mono hB.size)
          have hng : wr.heap.size ≠ w.heap.size := by have := heap_lt hM.2.1; omega
          have hyl := HXL
          have haB := hax
          have hbxB := hbx
          have hMB := hM0
          have hrB := hr0
          have hBB := hB0
          clear hM0 hr0 hB0 hBo hM hrx hax hbx hOB
          go_wp2_with fail
          refine (wLen_any _ _ _ _ hMB).mono ?_
          rintro e wC ⟨rfl, rfl⟩
          have hyb : ((xs.length : Int) != (n : Int)) = false := by rw [hyl.out]; simp
          go_wp2_with fail
          refine (wAll_any _ _ _ _ hMB).mono ?_
          rintro e wD ⟨vd, rfl, hbD, hoD⟩
          obtain ⟨ad, cd, rfl, hrD, _⟩ := owns_reads hoD
          have hBD := hBB.trans (hbD.mono hBB.size)
          have hMD := hMB.later hbD
          have hrBD := hrB.below hbD
          clear hoD hbD hMB hrB hBB
          go_wp2_with fail
          refine (Same_any _ _ _ _ xs xs _ hrD hrBD (by have := hyl.out; omega)).mono ?_
          rintro e wE ⟨rfl, hbE⟩
          have hFin : PlayI w n (w.heap.size + 1) w.heap.size (.slice ax xs.length cx) wE := ⟨xs, ax, cx, rfl, hyl.out, hMD.later hbE, hrBD.below hbE, haB, hbxB, hBD.trans (hbE.mono hBD.size)⟩
          clear hMD hrBD hrD hbE hBD haB hbxB
          go_wp2
          go_roundw
          case rel => exact ⟨j + 1, by omega, by go_num, hFin⟩
          case measure => simp [intOf]; omega
      · obtain rfl : j = m := by omega
        obtain ⟨xs, ax, cx, hx, hxl, hM, hrx, hax, hbx, hB⟩ := hP
        subst hx
        have hl := hM.2.2
        clear hA
        rcases (show (0 ≤ at_ ∧ at_ < (n : Int)) ∨ at_ < 0 ∨ (n : Int) ≤ at_ by omega) with ⟨q0, q1⟩ | q0 | q0
        · obtain ⟨i, rfl⟩ := Int.eq_ofNat_of_zero_le q0
          have hi : i < xs.length := by omega
          obtain ⟨b, off, rfl, hc⟩ := hrx.at_ i hi
          have e1 : rdV xs (i : Int) = xs[i]?.getD 0 := by simp [rdV, inB, hi]
          have e2 : wrE xs.length (i : Int) = 0 := by simp [wrE, inB, hi]
          obtain ⟨z, hz⟩ : ∃ z, xs[i]?.getD 0 = z := ⟨_, rfl⟩
          rw [hz] at hc e1
          have E1 := Lib.hid e1
          have E2 := Lib.hid e2
          have HXL := Lib.hid hxl
          have i1 : (i : Int) < (xs.length : Int) := by omega
          clear hz e1 e2 hxl hrx hax hbx
          go_wp2_with fail
          refine (wRead_any _ _ _ _ _ hM).mono ?_
          rw [E1.out, E2.out]
          rintro e wR ⟨rfl, rfl⟩
          go_wp2_with fail
          refine (wfixed_any _).mono ?_
          rintro e wF ⟨rfl, hbF⟩
          have hcF := (hbF.cell (cell_lt hc)).trans hc
          clear hM hc
          go_wp2
          go_ret
          exact ⟨ret_bool (by simp), hB.trans (hbF.mono hB.size)⟩
        all_goals
          have e1 : rdV xs at_ = 0 := by simp [rdV, inB]; omega
          have e2 : wrE xs.length at_ = 8 := by simp [wrE, inB]; omega
          have E1 := Lib.hid e1
          have E2 := Lib.hid e2
          clear e1 e2 hxl hrx hax hbx
          go_wp2_with fail
          refine (wRead_any _ _ _ _ _ hM).mono ?_
          rw [E1.out, E2.out]
          rintro e wR ⟨rfl, rfl⟩
          go_wp2_with fail
          refine (wfixed_any _).mono ?_
          rintro e wF ⟨rfl, hbF⟩
          clear hM
          go_wp2
          go_ret
          exact ⟨ret_bool (by simp), hB.trans (hbF.mono hB.size)⟩
end Go.Proofs.Ytennhifmhlmjhaa
