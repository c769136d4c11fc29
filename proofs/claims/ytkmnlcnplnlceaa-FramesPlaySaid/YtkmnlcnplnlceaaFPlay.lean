/-
  The law FramesPlay, walked.
-/
import Derived.Test.YtkmnlcnplnlceaaRows3
namespace Go.Proofs.Ytkmnlcnplnlceaa
open Go Go.RowKit

/-- What holds between two acts. -/
def FPlayI (W : World) (sb : Nat) (x : Value) (wr : World) : Prop :=
  ∃ (xss : List (List Int)) (S : Nat → Prop), StackAt wr sb xss S ∧ RowsAt wr (fun k => ¬ S k) x xss ∧ (∀ k, S k → W.heap.size ≤ k) ∧ Below W.heap.size W wr

/-- One word of an owned row is set. -/
theorem own_set_any {k : IntKind} {w : World} {B : Nat} {t : TypeId} {g cap n : Nat} {xs : List Int} (_hn : xs.length = n) (h : w.ownsRow B t 1 (.slice (some ⟨g, 0, none⟩) n cap) n (xs.map (Value.int k))) (i : Nat) (v : Int) :
    (w.setCell ⟨g, i, none⟩ (.int k v)).ownsRow B t 1 (.slice (some ⟨g, 0, none⟩) n cap) n ((xs.set i v).map (Value.int k)) := by
  have := (h.stored i (.int k v)).1
  rw [List.map_set]
  exact this

theorem own_blk {a : Option Addr} {n c k : Nat} (h : (Value.slice a n c).ownBlock = some k) : ∃ q, a = some q ∧ q.block = k := by
  cases a with
  | none => cases h
  | some q => exact ⟨q, rfl, by simpa [Value.ownBlock] using h⟩
theorem owns_base {w : World} {B : Nat} {t : TypeId} {size : Nat} {v : Value} {n : Nat} {xs : List Value} (h : w.ownsRow B t size v n xs) : w.ownsRow 0 t size v n xs := by
  refine ⟨h.1, ?_⟩
  rcases h.2 with hn | ⟨g, cap, cur, rfl, _, rest⟩
  · exact .inl hn
  · exact .inr ⟨g, cap, cur, rfl, Nat.zero_le _, rest⟩

set_option maxRecDepth 100000 in
set_option maxHeartbeats 16000000 in
theorem FramesPlay_any (a : Option Addr) (m cap : Nat) (K P V : Nat → Int) (n : Int) (w : World) (hA : ActsAt w a m K P V) (hn0 : 0 ≤ n) (hn1 : n ≤ 18446744073709551615) :
    Calls Try.prog 3 #[.slice a m cap, .int .u64 n] w fun e w' => e = .returned (.bool true) ∧ Below w.heap.size w w' := by
  by_cases hm : 100 < m
  · have hm' : (100 : Int) < (m : Int) := by omega
    go_enter Try.func3, Try.ntmps3
    go_wp2_with fail
    refine (fixed_any _).mono ?_
    rintro e w1 ⟨rfl, hb1⟩
    go_wp2
    go_ret
    exact ⟨rfl, hb1⟩
  · have hm' : ¬ (100 : Int) < (m : Int) := by omega
    go_enter Try.func3, Try.ntmps3
    go_wp2_with fail
    refine (sNew_any _).mono ?_
    rintro e w1 ⟨rfl, hb1, hS1⟩
    have hI : FPlayI w w.heap.size (.slice (some ⟨w1.heap.size, 0, none⟩) 0 0) (w1.alloc (.cells #[] 31)) := by
      have hbo : Below w1.heap.size w1 (w1.alloc (.cells #[] 31)) := (Below.refl _ _).alloc (Nat.le_refl _) _
      have hlt := S_lt hS1 w.heap.size rfl
      exact ⟨[], _, hS1.later hbo, ⟨w1.heap.size, 0, 0, [], rfl, rfl, Nat.le_refl 0, by omega, by simp, fun i u hu => by simp at hu, fun i u xs hu => by simp at hu⟩, fun k e => by subst e; exact Nat.le_refl _, hb1.trans (hbo.mono hb1.size)⟩
    clear hb1 hS1
    go_wp2
    go_loopw [6, 32] (fun x i wr => ∃ j : Nat, j ≤ m ∧ i = .int .i64 j ∧ FPlayI w w.heap.size x wr) (fun _ i _ => m - (intOf i).toNat)
    case atStart => exact ⟨0, Nat.zero_le _, rfl, hI⟩
    case round =>
      obtain ⟨j, hj, rfl, xss, S, hS, hX, hGe, hBw⟩ := hrel
      clear hI
      by_cases hlt : j < m
      · obtain ⟨b, off, rfl, f0, f1, f2, p0, p1⟩ := hA j hlt
        obtain ⟨k0, hk⟩ : ∃ q, K j = q := ⟨_, rfl⟩
        obtain ⟨p, hp⟩ : ∃ q, P j = q := ⟨_, rfl⟩
        obtain ⟨v, hv⟩ : ∃ q, V j = q := ⟨_, rfl⟩
        rw [hk] at f0
        rw [hp] at f1 p0 p1
        rw [hv] at f2
        have g0 := (hBw.cell (cell_lt f0)).trans f0
        have g1 := (hBw.cell (cell_lt f1)).trans f1
        have g2 := (hBw.cell (cell_lt f2)).trans f2
        have hOB := heap_alloc_eq wr (.cells #[.int .i64 k0, .int .u64 p, .int .u64 v] 29)
        have hbo : Below wr.heap.size wr (wr.alloc (.cells #[.int .i64 k0, .int .u64 p, .int .u64 v] 29)) := (Below.refl _ _).alloc (Nat.le_refl _) _
        have hSlt := S_lt hS
        have hSo := hS.later hbo
        have hXo := (hX.below hbo).weak (R' := fun k => k < (wr.alloc (.cells #[.int .i64 k0, .int .u64 p, .int .u64 v] 29)).heap.size ∧ ¬ S k) (fun k h1 h2 => ⟨h1, h2⟩)
        have hBo := hBw.trans (hbo.mono hBw.size)
        have hob : ¬ S wr.heap.size := fun e => by have := hSlt _ e; omega
        have hfew := S_few hS
        generalize hwo : wr.alloc (.cells #[.int .i64 k0, .int .u64 p, .int .u64 v] 29) = wo at hOB hbo hSo hXo hBo
        have hszo : wr.heap.size < wo.heap.size := by rw [← hwo]; simp
        have HWO := Lib.hid hwo
        have hSlo := S_lt hSo
        obtain ⟨xb, xo, xc, hxv⟩ : ∃ xb xo xc, u6 = .slice (some ⟨xb, xo, none⟩) xss.length xc := by
          obtain ⟨b', o', c', _, h, _⟩ := hX
          exact ⟨b', o', c', h⟩
        subst hxv
        clear hk hp hv f0 f1 f2 hA hX hS hwo hbo
        rcases (show k0 = 0 ∨ k0 = 1 ∨ k0 = 2 ∨ (k0 ≠ 0 ∧ k0 ≠ 1 ∧ k0 ≠ 2) by omega) with rfl | rfl | rfl | ⟨q0, q1, q2⟩
        · go_wp2_with fail
          rw [HWO.out]
          refine (sPush_any hSo p p0).mono ?_
          rintro e w2 ⟨rfl, S', hS2, hm2, hn2⟩
          have hX2 := hXo.moved (R' := fun k => k < wo.heap.size ∧ ¬ S k) hm2 (fun k _ h => h.2) (fun _ _ h => h)
          have hO2 := hm2.heap hOB hob
          have d1 := heap_cell hO2 1
          simp at d1
          have hS2lt := S_lt hS2
          have hsz2 := hm2.size
          have hB2 := Moved.below hBo hm2 hBo.size hGe
          obtain ⟨E, hE⟩ : ∃ E, pushE xss.length p = E := ⟨_, rfl⟩
          rw [hE]
          clear hXo hOB hSo
          go_wp2_with fail
          refine (r17Push_any p _ hX2 p0 hfew.1).mono ?_
          rintro e w3 ⟨x3, rfl, hb3, hX3⟩
          obtain ⟨ys, hys⟩ : ∃ ys, pushL xss p = ys := ⟨_, rfl⟩
          rw [hys] at hS2 hX3
          rw [hE]
          obtain ⟨R2, hRdef⟩ : ∃ R2 : Nat → Prop, R2 = fun k => ((k < wo.heap.size ∧ ¬ S k) ∨ w2.heap.size ≤ k) ∧ k < w3.heap.size := ⟨_, rfl⟩
          have hsz3 := hb3.size
          have hSt := hS2.later hb3
          have hRo : RowsAt w3 R2 x3 ys := hX3.weak (fun k h1 h2 => by rw [hRdef]; exact ⟨h2, h1⟩)
          have hR2 : ∀ k, R2 k → k < w3.heap.size := fun k h => by rw [hRdef] at h; exact h.2
          have hRS : ∀ k, R2 k → ¬ S' k := fun k h e => by
            rw [hRdef] at h
            have h8 := hS2lt k e
            rcases h.1 with h | h
            · rcases hn2 k e with h9 | h9
              · exact h.2 h9
              · omega
            · omega
          have hGe' : ∀ k, S' k → w.heap.size ≤ k := fun k e => (hn2 k e).elim (hGe k) (fun h => Nat.le_trans hBo.size h)
          have hBt : Below w.heap.size w w3 := hB2.trans (hb3.mono hB2.size)
          clear hRdef hX3 hS2 hb3 hX2 hE hys hO2 d1 hB2
          obtain ⟨yb, yo, yc, hyv⟩ : ∃ yb yo yc, x3 = .slice (some ⟨yb, yo, none⟩) ys.length yc := by
            obtain ⟨b', o', c', _, h, _⟩ := hRo
            exact ⟨b', o', c', h⟩
          subst hyv
          have hfy := S_few hSt
          have hSl3 := S_lt hSt
          have hfly := flat_len hfy.2
          have hal := sAll_any hSt
          obtain ⟨fl, hfl⟩ : ∃ fl, ys.flatten = fl := ⟨_, rfl⟩
          rw [hfl] at hal hfly
          have HFL := Lib.hid hfl
          clear hfl
          go_wp2_with fail
          refine hal.mono ?_
          rintro e w4 ⟨v4, rfl, hb4, ho4⟩
          obtain ⟨a4, c4, rfl, hr4, _⟩ := owns_reads ho4
          clear hal
          go_wp2_with fail
          refine (Same_any none none 0 0 [] [] _ (.inl rfl) (.inl rfl) (by decide)).mono ?_
          rintro e w5 ⟨rfl, hb5⟩
          have hb35 : Below w3.heap.size w3 w5 := hb4.trans (hb5.mono hb4.size)
          go_wp2_with fail
          refine (Depth_any (hSt.later hb35)).mono ?_
          rintro e w6 ⟨rfl, rfl⟩
          go_wp2_with fail
          refine (r17All_any _ (hRo.below hb35) hfy.1 hfy.2).mono ?_
          rw [HFL.out]
          rintro e w7 ⟨v7, rfl, hb7, ho7⟩
          obtain ⟨a7, c7, rfl, hr7, _⟩ := owns_reads ho7
          have hr47 := (hr4.below hb5).below hb7
          clear ho7 hr4
          go_wp2_with fail
          refine (Same_any a4 a7 c4 c7 fl fl _ hr47 hr7 (by omega)).mono ?_
          rintro e w8 ⟨rfl, hb8⟩
          have hb48 : Below w4.heap.size w4 w8 := hb5.trans ((hb7.trans (hb8.mono hb7.size)).mono hb5.size)
          have hb38 : Below w3.heap.size w3 w8 := hb4.trans (hb48.mono hb4.size)
          have ho8 := (Moved.of_below hb48 (fun _ => False)).owns ho4 (fun _ _ e => e)
          have hSt8 := hSt.later hb38
          have hRo8 := hRo.below hb38
          have hB8 : Below w.heap.size w w8 := hBt.trans (hb38.mono hBt.size)
          have hsz8 := hBt.size
          obtain ⟨N, hN⟩ : ∃ N, fl.length = N := ⟨_, rfl⟩
          rw [hN] at ho8 hfly ⊢
          have HN := Lib.hid hN
          clear ho4 hSt hRo hb4 hb5 hb7 hb8 hr47 hr7 hb35 hb48 hN hb38
          go_wp2
          go_loopw [117] (fun i wx => ∃ q : Nat, q ≤ N ∧ i = .int .i64 q ∧ ∃ zs : List Int, zs.length = N ∧ wx.ownsRow w3.heap.size 23 1 (.slice a4 N c4) N (zs.map (Value.int .u64)) ∧ Moved (fun k => (Value.slice a4 N c4).ownBlock = some k) w8 wx) (fun i _ => N - (intOf i).toNat)
          case atStart => exact ⟨0, Nat.zero_le _, rfl, fl, HN.out, ho8, Moved.refl _ _⟩
          case round =>
            obtain ⟨q, hq, rfl, zs, hzl, hoz, hmz⟩ := hrel
            by_cases hlq : q < N
            · obtain ⟨g, c', cur, hsv, hBg, hg⟩ := own_shape hoz (by omega)
              simp only [Value.slice.injEq] at hsv
              obtain ⟨rfl, _, rfl⟩ := hsv
              have hc1 := hoz.cellAt (g := g) q (by omega)
              have hf1 := hoz.frozenAt (g := g) q
              rw [List.getElem?_map, List.getElem?_eq_getElem (by omega)] at hc1
              obtain ⟨z, hz⟩ : ∃ z, zs[q]'(by omega) = z := ⟨_, rfl⟩
              rw [hz, Option.map_some] at hc1
              have HO := Lib.hid (own_set_any hzl hoz q (IntKind.u64.wrap (z + 1)))
              have HMZ := Lib.hid hmz
              have HZL := Lib.hid hzl
              have i1 : (q : Int) < (N : Int) := by omega
              clear hoz hmz hz hzl hg ho8 hSt8 hRo8 hB8
              go_wp2
              go_roundw
              case rel => exact ⟨q + 1, by omega, by go_num, zs.set q (IntKind.u64.wrap (z + 1)), by rw [List.length_set]; exact HZL.out, HO.out, HMZ.out.trans (Moved.of_set (S := fun k => some g = some k) _ g q _ rfl) (fun k h => .inl h)⟩
              case measure => simp [intOf]; omega
            · obtain rfl : q = N := by omega
              have hne4 : ∀ k, (Value.slice a4 q c4).ownBlock = some k → w3.heap.size ≤ k := fun k hk => (hoz.lt k hk).1
              have hSt9 := hSt8.moved hmz (fun k hk e => by have h1 := hne4 k e; have h2 := hSl3 k hk; omega)
              have hRo9 := hRo8.moved (R' := R2) hmz (fun k _ hk e => by have h1 := hne4 k e; have h2 := hR2 k hk; omega) (fun _ _ h => h)
              have hB9 := Moved.below hB8 hmz hB8.size (fun k hk => Nat.le_trans hsz8 (hne4 k hk))
              have hFin : FPlayI w w.heap.size (.slice (some ⟨yb, yo, none⟩) ys.length yc) wr := ⟨ys, S', hSt9, hRo9.weak (fun k _ hk => hRS k hk), hGe', hB9⟩
              clear hoz hmz hSt8 hRo8 hB8 ho8 hzl hSt9 hRo9 hB9
              go_wp2
              go_loopw [129] (fun i wx => i = .int .i64 0 ∧ wx = wr) (fun _ _ => 0)
              case atStart => exact ⟨rfl, rfl⟩
              case round =>
                obtain ⟨rfl, rfl⟩ := hrel
                go_wp2
                go_roundw
                case rel => exact ⟨j + 1, by omega, by go_num, hFin⟩
                case measure => simp [intOf]; omega
        · go_wp2_with fail
          rw [HWO.out]
          refine (sPop_any hSo).mono ?_
          rintro e w2 ⟨gv, rfl, hS2, hm2, hgo2⟩
          have hX2 := hXo.moved (R' := fun k => k < wo.heap.size ∧ ¬ S k) hm2 (fun k _ h => h.2) (fun _ _ h => h)
          have hsz2 := hm2.size
          have hB2 := Moved.below hBo hm2 hBo.size hGe
          have hpop := r17Pop_any w2 hX2 hfew.1
          have hglen : (popL xss).length ≤ 16 := by
            rcases List.eq_nil_or_concat xss with e9 | ⟨yss, l, e9⟩
            · rw [e9]; simp [popL]
            · rw [e9, List.concat_eq_append, popL_concat]; exact hfew.2 l (by rw [e9]; simp)
          obtain ⟨gl, hgl0⟩ : ∃ gl, popL xss = gl := ⟨_, rfl⟩
          obtain ⟨E, hE⟩ : ∃ E, popE xss = E := ⟨_, rfl⟩
          rw [hE, hgl0] at hpop
          rw [hgl0] at hgo2 hglen
          rw [hE]
          obtain ⟨ag, cg, rfl, hgl2, hgb2, _⟩ := owns_reads hgo2
          clear hXo hOB hSo
          go_wp2_with fail
          refine hpop.mono ?_
          rintro e w3 ⟨x3, lv, rfl, hb3, hX3, hlv⟩
          obtain ⟨lb, lo, lc, rfl, hgr, _⟩ := hlv
          obtain ⟨ys, hys⟩ : ∃ ys, xss.dropLast = ys := ⟨_, rfl⟩
          rw [hys] at hS2 hX3
          obtain ⟨R2, hRdef⟩ : ∃ R2 : Nat → Prop, R2 = fun k => k < wo.heap.size ∧ ¬ S k := ⟨_, rfl⟩
          have hsz3 := hb3.size
          have hSt := hS2.later hb3
          have hRo : RowsAt w3 R2 x3 ys := hX3.weak (fun k h1 h2 => by rw [hRdef]; exact h2)
          have hR2 : ∀ k, R2 k → k < w3.heap.size := fun k h => by rw [hRdef] at h; have := h.1; omega
          have hRS : ∀ k, R2 k → ¬ S k := fun k h e => by
            rw [hRdef] at h
            exact h.2 e
          have hgS : ∀ q, ag = some q → ¬ S q.block ∧ w.heap.size ≤ q.block ∧ q.block < w3.heap.size := fun q e => by
            have h1 := hgb2 q e
            have h2 := hBo.size
            exact ⟨fun e2 => by have h3 := hSlo _ e2; omega, by omega, by omega⟩
          have hRg : ∀ q k, ag = some q → R2 k → k ≠ q.block := fun q k e h e2 => by
            rw [hRdef] at h
            have h1 := hgb2 q e
            have h3 := h.1
            omega
          have hgl := hgl2.below hb3
          have hgo := owns_base ((Moved.of_below hb3 (fun _ => False)).owns hgo2 (fun _ _ e => e))
          have hgM := hglen
          obtain ⟨la, hla⟩ : ∃ la : Option Addr, la = some ⟨lb, lo, none⟩ := ⟨_, rfl⟩
          rw [← hla] at hgr
          rw [← hla]
          obtain ⟨S', hSS⟩ : ∃ S', S' = S := ⟨_, rfl⟩
          subst hSS
          have hGe' := hGe
          have hBt : Below w.heap.size w w3 := hB2.trans (hb3.mono hB2.size)
          clear hRdef hX3 hS2 hb3 hX2 hE hys hB2 hpop hgl0 hgl2 hgo2 hgb2 hla hglen
          obtain ⟨yb, yo, yc, hyv⟩ : ∃ yb yo yc, x3 = .slice (some ⟨yb, yo, none⟩) ys.length yc := by
            obtain ⟨b', o', c', _, h, _⟩ := hRo
            exact ⟨b', o', c', h⟩
          subst hyv
          have hfy := S_few hSt
          have hSl3 := S_lt hSt
          have hfly := flat_len hfy.2
          have hal := sAll_any hSt
          obtain ⟨fl, hfl⟩ : ∃ fl, ys.flatten = fl := ⟨_, rfl⟩
          rw [hfl] at hal hfly
          have HFL := Lib.hid hfl
          clear hfl
          go_wp2_with fail
          refine hal.mono ?_
          rintro e w4 ⟨v4, rfl, hb4, ho4⟩
          obtain ⟨a4, c4, rfl, hr4, _⟩ := owns_reads ho4
          clear hal
          have hgr4 := hgr.below hb4
          have hgl4 := hgl.below hb4
          go_wp2_with fail
          refine (Same_any ag la cg lc gl gl _ hgl4 hgr4 (by omega)).mono ?_
          rintro e w5 ⟨rfl, hb5⟩
          have hb35 : Below w3.heap.size w3 w5 := hb4.trans (hb5.mono hb4.size)
          clear hgr4 hgl4
          go_wp2_with fail
          refine (Depth_any (hSt.later hb35)).mono ?_
          rintro e w6 ⟨rfl, rfl⟩
          go_wp2_with fail
          refine (r17All_any _ (hRo.below hb35) hfy.1 hfy.2).mono ?_
          rw [HFL.out]
          rintro e w7 ⟨v7, rfl, hb7, ho7⟩
          obtain ⟨a7, c7, rfl, hr7, _⟩ := owns_reads ho7
          have hr47 := (hr4.below hb5).below hb7
          clear ho7 hr4
          go_wp2_with fail
          refine (Same_any a4 a7 c4 c7 fl fl _ hr47 hr7 (by omega)).mono ?_
          rintro e w8 ⟨rfl, hb8⟩
          have hb48 : Below w4.heap.size w4 w8 := hb5.trans ((hb7.trans (hb8.mono hb7.size)).mono hb5.size)
          have hb38 : Below w3.heap.size w3 w8 := hb4.trans (hb48.mono hb4.size)
          have ho8 := (Moved.of_below hb48 (fun _ => False)).owns ho4 (fun _ _ e => e)
          have hSt8 := hSt.later hb38
          have hRo8 := hRo.below hb38
          have hB8 : Below w.heap.size w w8 := hBt.trans (hb38.mono hBt.size)
          have hsz8 := hBt.size
          obtain ⟨N, hN⟩ : ∃ N, fl.length = N := ⟨_, rfl⟩
          rw [hN] at ho8 hfly ⊢
          have HN := Lib.hid hN
          have hgo8 := (Moved.of_below hb38 (fun _ => False)).owns hgo (fun _ _ e => e)
          obtain ⟨M, hM⟩ : ∃ M, gl.length = M := ⟨_, rfl⟩
          rw [hM] at hgo8 hgM ⊢
          have HM := Lib.hid hM
          clear hgo hM hgr hgl
          clear ho4 hSt hRo hb4 hb5 hb7 hb8 hr47 hr7 hb35 hb48 hN hb38
          go_wp2
          go_loopw [117] (fun i wx => ∃ q : Nat, q ≤ N ∧ i = .int .i64 q ∧ ∃ zs : List Int, zs.length = N ∧ wx.ownsRow w3.heap.size 23 1 (.slice a4 N c4) N (zs.map (Value.int .u64)) ∧ Moved (fun k => (Value.slice a4 N c4).ownBlock = some k) w8 wx) (fun i _ => N - (intOf i).toNat)
          case atStart => exact ⟨0, Nat.zero_le _, rfl, fl, HN.out, ho8, Moved.refl _ _⟩
          case round =>
            obtain ⟨q, hq, rfl, zs, hzl, hoz, hmz⟩ := hrel
            by_cases hlq : q < N
            · obtain ⟨g, c', cur, hsv, hBg, hg⟩ := own_shape hoz (by omega)
              simp only [Value.slice.injEq] at hsv
              obtain ⟨rfl, _, rfl⟩ := hsv
              have hc1 := hoz.cellAt (g := g) q (by omega)
              have hf1 := hoz.frozenAt (g := g) q
              rw [List.getElem?_map, List.getElem?_eq_getElem (by omega)] at hc1
              obtain ⟨z, hz⟩ : ∃ z, zs[q]'(by omega) = z := ⟨_, rfl⟩
              rw [hz, Option.map_some] at hc1
              have HO := Lib.hid (own_set_any hzl hoz q (IntKind.u64.wrap (z + 1)))
              have HMZ := Lib.hid hmz
              have HZL := Lib.hid hzl
              have i1 : (q : Int) < (N : Int) := by omega
              clear hoz hmz hz hzl hg ho8 hSt8 hRo8 hB8 hgo8
              go_wp2
              go_roundw
              case rel => exact ⟨q + 1, by omega, by go_num, zs.set q (IntKind.u64.wrap (z + 1)), by rw [List.length_set]; exact HZL.out, HO.out, HMZ.out.trans (Moved.of_set (S := fun k => some g = some k) _ g q _ rfl) (fun k h => .inl h)⟩
              case measure => simp [intOf]; omega
            · obtain rfl : q = N := by omega
              have hne4 : ∀ k, (Value.slice a4 q c4).ownBlock = some k → w3.heap.size ≤ k := fun k hk => (hoz.lt k hk).1
              have hSt9 := hSt8.moved hmz (fun k hk e => by have h1 := hne4 k e; have h2 := hSl3 k hk; omega)
              have hRo9 := hRo8.moved (R' := R2) hmz (fun k _ hk e => by have h1 := hne4 k e; have h2 := hR2 k hk; omega) (fun _ _ h => h)
              have hB9 := Moved.below hB8 hmz hB8.size (fun k hk => Nat.le_trans hsz8 (hne4 k hk))
              have hgo9 := hmz.owns hgo8 (fun k hk e => by have h1 := hne4 k e; obtain ⟨q9, e1, e2⟩ := own_blk hk; have h2 := (hgS q9 e1).2.2; omega)
              clear hoz hmz hSt8 hRo8 hgo8 hB8 ho8 hzl
              go_wp2
              go_loopw [129] (fun i wx => ∃ q : Nat, q ≤ M ∧ i = .int .i64 q ∧ ∃ zs : List Int, zs.length = M ∧ wx.ownsRow 0 23 1 (.slice ag M cg) M (zs.map (Value.int .u64)) ∧ Moved (fun k => (Value.slice ag M cg).ownBlock = some k) wr wx) (fun i _ => M - (intOf i).toNat)
              case atStart => exact ⟨0, Nat.zero_le _, rfl, gl, HM.out, hgo9, Moved.refl _ _⟩
              case round =>
                obtain ⟨q, hq, rfl, zs, hzl, hoz, hmz⟩ := hrel
                by_cases hlq : q < M
                · obtain ⟨g, c', cur, hsv, hBg, hg⟩ := own_shape hoz (by omega)
                  simp only [Value.slice.injEq] at hsv
                  obtain ⟨rfl, _, rfl⟩ := hsv
                  have hc1 := hoz.cellAt (g := g) q (by omega)
                  have hf1 := hoz.frozenAt (g := g) q
                  rw [List.getElem?_map, List.getElem?_eq_getElem (by omega)] at hc1
                  obtain ⟨z, hz⟩ : ∃ z, zs[q]'(by omega) = z := ⟨_, rfl⟩
                  rw [hz, Option.map_some] at hc1
                  have HO := Lib.hid (own_set_any hzl hoz q (IntKind.u64.wrap (z + 1)))
                  have HMZ := Lib.hid hmz
                  have HZL := Lib.hid hzl
                  have i1 : (q : Int) < (M : Int) := by omega
                  clear hoz hmz hz hzl hg hSt9 hRo9 hgo9 hB9
                  go_wp2
                  go_roundw
                  case rel => exact ⟨q + 1, by omega, by go_num, zs.set q (IntKind.u64.wrap (z + 1)), by rw [List.length_set]; exact HZL.out, HO.out, HMZ.out.trans (Moved.of_set (S := fun k => some g = some k) _ g q _ rfl) (fun k h => .inl h)⟩
                  case measure => simp [intOf]; omega
                · obtain rfl : q = M := by omega
                  have hFin : FPlayI w w.heap.size (.slice (some ⟨yb, yo, none⟩) ys.length yc) wr := by
                    refine ⟨ys, S', hSt9.moved hmz (fun k hk e => ?_), hRo9.moved hmz (fun k _ hk e => ?_) (fun k _ hk => hRS k hk), hGe', Moved.below hB9 hmz hB9.size (fun k hk => ?_)⟩
                    · obtain ⟨q9, e1, e2⟩ := own_blk e
                      exact (hgS q9 e1).1 (by rw [e2]; exact hk)
                    · obtain ⟨q9, e1, e2⟩ := own_blk e
                      exact hRg q9 k e1 hk e2.symm
                    · obtain ⟨q9, e1, e2⟩ := own_blk hk
                      have := (hgS q9 e1).2.1
                      omega
                  clear hoz hmz hSt9 hRo9 hgo9 hB9
                  go_wp2
                  go_roundw
                  case rel => exact ⟨j + 1, by omega, by go_num, hFin⟩
                  case measure => simp [intOf]; omega
        · go_wp2_with fail
          rw [HWO.out]
          refine (sSet_any hSo p v p0 p1).mono ?_
          rintro e w2 ⟨rfl, hS2, hm2⟩
          have hX2 := hXo.moved (R' := fun k => k < wo.heap.size ∧ ¬ S k) hm2 (fun k _ h => h.2) (fun _ _ h => h)
          have hO2 := hm2.heap hOB hob
          have d1 := heap_cell hO2 1
          have d2 := heap_cell hO2 2
          simp at d1 d2
          have hsz2 := hm2.size
          have hB2 := Moved.below hBo hm2 hBo.size hGe
          have hset := r17Set_any p v w2 hX2 p0 p1 hfew.1
          obtain ⟨E, hE⟩ : ∃ E, getE xss p = E := ⟨_, rfl⟩
          obtain ⟨F, hF⟩ : ∃ F, getV xss p = F := ⟨_, rfl⟩
          rw [hE, hF] at hset
          rw [hE, hF]
          clear hXo hOB hSo
          go_wp2_with fail
          refine hset.mono ?_
          rintro e w3 ⟨x3, rfl, hb3, hX3⟩
          obtain ⟨ys, hys⟩ : ∃ ys, setTop xss p v = ys := ⟨_, rfl⟩
          rw [hys] at hS2 hX3
          obtain ⟨R2, hRdef⟩ : ∃ R2 : Nat → Prop, R2 = fun k => ((k < wo.heap.size ∧ ¬ S k) ∨ w2.heap.size ≤ k) ∧ k < w3.heap.size := ⟨_, rfl⟩
          have hsz3 := hb3.size
          have hSt := hS2.later hb3
          have hRo : RowsAt w3 R2 x3 ys := hX3.weak (fun k h1 h2 => by rw [hRdef]; exact ⟨h2, h1⟩)
          have hR2 : ∀ k, R2 k → k < w3.heap.size := fun k h => by rw [hRdef] at h; exact h.2
          have hRS : ∀ k, R2 k → ¬ S k := fun k h e => by
            rw [hRdef] at h
            have h8 := hSlo k e
            rcases h.1 with h | h
            · exact h.2 e
            · omega
          obtain ⟨S', hSS⟩ : ∃ S', S' = S := ⟨_, rfl⟩
          subst hSS
          have hGe' := hGe
          have hBt : Below w.heap.size w w3 := hB2.trans (hb3.mono hB2.size)
          clear hRdef hX3 hS2 hb3 hX2 hE hF hys hO2 d1 d2 hB2 hset
          obtain ⟨yb, yo, yc, hyv⟩ : ∃ yb yo yc, x3 = .slice (some ⟨yb, yo, none⟩) ys.length yc := by
            obtain ⟨b', o', c', _, h, _⟩ := hRo
            exact ⟨b', o', c', h⟩
          subst hyv
          have hfy := S_few hSt
          have hSl3 := S_lt hSt
          have hfly := flat_len hfy.2
          have hal := sAll_any hSt
          obtain ⟨fl, hfl⟩ : ∃ fl, ys.flatten = fl := ⟨_, rfl⟩
          rw [hfl] at hal hfly
          have HFL := Lib.hid hfl
          clear hfl
          go_wp2_with fail
          refine hal.mono ?_
          rintro e w4 ⟨v4, rfl, hb4, ho4⟩
          obtain ⟨a4, c4, rfl, hr4, _⟩ := owns_reads ho4
          clear hal
          go_wp2_with fail
          refine (Same_any none none 0 0 [] [] _ (.inl rfl) (.inl rfl) (by decide)).mono ?_
          rintro e w5 ⟨rfl, hb5⟩
          have hb35 : Below w3.heap.size w3 w5 := hb4.trans (hb5.mono hb4.size)
          go_wp2_with fail
          refine (Depth_any (hSt.later hb35)).mono ?_
          rintro e w6 ⟨rfl, rfl⟩
          go_wp2_with fail
          refine (r17All_any _ (hRo.below hb35) hfy.1 hfy.2).mono ?_
          rw [HFL.out]
          rintro e w7 ⟨v7, rfl, hb7, ho7⟩
          obtain ⟨a7, c7, rfl, hr7, _⟩ := owns_reads ho7
          have hr47 := (hr4.below hb5).below hb7
          clear ho7 hr4
          go_wp2_with fail
          refine (Same_any a4 a7 c4 c7 fl fl _ hr47 hr7 (by omega)).mono ?_
          rintro e w8 ⟨rfl, hb8⟩
          have hb48 : Below w4.heap.size w4 w8 := hb5.trans ((hb7.trans (hb8.mono hb7.size)).mono hb5.size)
          have hb38 : Below w3.heap.size w3 w8 := hb4.trans (hb48.mono hb4.size)
          have ho8 := (Moved.of_below hb48 (fun _ => False)).owns ho4 (fun _ _ e => e)
          have hSt8 := hSt.later hb38
          have hRo8 := hRo.below hb38
          have hB8 : Below w.heap.size w w8 := hBt.trans (hb38.mono hBt.size)
          have hsz8 := hBt.size
          obtain ⟨N, hN⟩ : ∃ N, fl.length = N := ⟨_, rfl⟩
          rw [hN] at ho8 hfly ⊢
          have HN := Lib.hid hN
          clear ho4 hSt hRo hb4 hb5 hb7 hb8 hr47 hr7 hb35 hb48 hN hb38
          go_wp2
          go_loopw [117] (fun i wx => ∃ q : Nat, q ≤ N ∧ i = .int .i64 q ∧ ∃ zs : List Int, zs.length = N ∧ wx.ownsRow w3.heap.size 23 1 (.slice a4 N c4) N (zs.map (Value.int .u64)) ∧ Moved (fun k => (Value.slice a4 N c4).ownBlock = some k) w8 wx) (fun i _ => N - (intOf i).toNat)
          case atStart => exact ⟨0, Nat.zero_le _, rfl, fl, HN.out, ho8, Moved.refl _ _⟩
          case round =>
            obtain ⟨q, hq, rfl, zs, hzl, hoz, hmz⟩ := hrel
            by_cases hlq : q < N
            · obtain ⟨g, c', cur, hsv, hBg, hg⟩ := own_shape hoz (by omega)
              simp only [Value.slice.injEq] at hsv
              obtain ⟨rfl, _, rfl⟩ := hsv
              have hc1 := hoz.cellAt (g := g) q (by omega)
              have hf1 := hoz.frozenAt (g := g) q
              rw [List.getElem?_map, List.getElem?_eq_getElem (by omega)] at hc1
              obtain ⟨z, hz⟩ : ∃ z, zs[q]'(by omega) = z := ⟨_, rfl⟩
              rw [hz, Option.map_some] at hc1
              have HO := Lib.hid (own_set_any hzl hoz q (IntKind.u64.wrap (z + 1)))
              have HMZ := Lib.hid hmz
              have HZL := Lib.hid hzl
              have i1 : (q : Int) < (N : Int) := by omega
              clear hoz hmz hz hzl hg ho8 hSt8 hRo8 hB8
              go_wp2
              go_roundw
              case rel => exact ⟨q + 1, by omega, by go_num, zs.set q (IntKind.u64.wrap (z + 1)), by rw [List.length_set]; exact HZL.out, HO.out, HMZ.out.trans (Moved.of_set (S := fun k => some g = some k) _ g q _ rfl) (fun k h => .inl h)⟩
              case measure => simp [intOf]; omega
            · obtain rfl : q = N := by omega
              have hne4 : ∀ k, (Value.slice a4 q c4).ownBlock = some k → w3.heap.size ≤ k := fun k hk => (hoz.lt k hk).1
              have hSt9 := hSt8.moved hmz (fun k hk e => by have h1 := hne4 k e; have h2 := hSl3 k hk; omega)
              have hRo9 := hRo8.moved (R' := R2) hmz (fun k _ hk e => by have h1 := hne4 k e; have h2 := hR2 k hk; omega) (fun _ _ h => h)
              have hB9 := Moved.below hB8 hmz hB8.size (fun k hk => Nat.le_trans hsz8 (hne4 k hk))
              have hFin : FPlayI w w.heap.size (.slice (some ⟨yb, yo, none⟩) ys.length yc) wr := ⟨ys, S', hSt9, hRo9.weak (fun k _ hk => hRS k hk), hGe', hB9⟩
              clear hoz hmz hSt8 hRo8 hB8 ho8 hzl hSt9 hRo9 hB9
              go_wp2
              go_loopw [129] (fun i wx => i = .int .i64 0 ∧ wx = wr) (fun _ _ => 0)
              case atStart => exact ⟨rfl, rfl⟩
              case round =>
                obtain ⟨rfl, rfl⟩ := hrel
                go_wp2
                go_roundw
                case rel => exact ⟨j + 1, by omega, by go_num, hFin⟩
                case measure => simp [intOf]; omega
        · have hSt := hSo
          obtain ⟨R2, hRdef⟩ : ∃ R2 : Nat → Prop, R2 = fun k => k < wo.heap.size ∧ ¬ S k := ⟨_, rfl⟩
          rw [← hRdef] at hXo
          have hRo := hXo
          obtain ⟨w3, hw3⟩ : ∃ w3, w3 = wo := ⟨_, rfl⟩
          subst hw3
          have hR2 : ∀ k, R2 k → k < w3.heap.size := fun k h => by rw [hRdef] at h; exact h.1
          have hRS : ∀ k, R2 k → ¬ S k := fun k h => by rw [hRdef] at h; exact h.2
          have hGe' := hGe
          have hBt := hBo
          obtain ⟨ys, hys⟩ : ∃ ys, ys = xss := ⟨_, rfl⟩
          subst hys
          obtain ⟨S', hSS⟩ : ∃ S', S' = S := ⟨_, rfl⟩
          subst hSS
          obtain ⟨yb, yo, yc, rfl, rfl, rfl⟩ : ∃ yb yo yc, yb = xb ∧ yo = xo ∧ yc = xc := ⟨_, _, _, rfl, rfl, rfl⟩
          clear hRdef hOB hSo hXo hGe hBo hfew
          have hfy := S_few hSt
          have hSl3 := S_lt hSt
          have hfly := flat_len hfy.2
          have hal := sAll_any hSt
          obtain ⟨fl, hfl⟩ : ∃ fl, ys.flatten = fl := ⟨_, rfl⟩
          rw [hfl] at hal hfly
          have HFL := Lib.hid hfl
          clear hfl
          go_wp2_with fail
          rw [HWO.out]
          refine hal.mono ?_
          rintro e w4 ⟨v4, rfl, hb4, ho4⟩
          obtain ⟨a4, c4, rfl, hr4, _⟩ := owns_reads ho4
          clear hal
          go_wp2_with fail
          refine (Same_any none none 0 0 [] [] _ (.inl rfl) (.inl rfl) (by decide)).mono ?_
          rintro e w5 ⟨rfl, hb5⟩
          have hb35 : Below w3.heap.size w3 w5 := hb4.trans (hb5.mono hb4.size)
          go_wp2_with fail
          refine (Depth_any (hSt.later hb35)).mono ?_
          rintro e w6 ⟨rfl, rfl⟩
          go_wp2_with fail
          refine (r17All_any _ (hRo.below hb35) hfy.1 hfy.2).mono ?_
          rw [HFL.out]
          rintro e w7 ⟨v7, rfl, hb7, ho7⟩
          obtain ⟨a7, c7, rfl, hr7, _⟩ := owns_reads ho7
          have hr47 := (hr4.below hb5).below hb7
          clear ho7 hr4
          go_wp2_with fail
          refine (Same_any a4 a7 c4 c7 fl fl _ hr47 hr7 (by omega)).mono ?_
          rintro e w8 ⟨rfl, hb8⟩
          have hb48 : Below w4.heap.size w4 w8 := hb5.trans ((hb7.trans (hb8.mono hb7.size)).mono hb5.size)
          have hb38 : Below w3.heap.size w3 w8 := hb4.trans (hb48.mono hb4.size)
          have ho8 := (Moved.of_below hb48 (fun _ => False)).owns ho4 (fun _ _ e => e)
          have hSt8 := hSt.later hb38
          have hRo8 := hRo.below hb38
          have hB8 : Below w.heap.size w w8 := hBt.trans (hb38.mono hBt.size)
          have hsz8 := hBt.size
          obtain ⟨N, hN⟩ : ∃ N, fl.length = N := ⟨_, rfl⟩
          rw [hN] at ho8 hfly ⊢
          have HN := Lib.hid hN
          clear ho4 hSt hRo hb4 hb5 hb7 hb8 hr47 hr7 hb35 hb48 hN hb38
          go_wp2
          go_loopw [117] (fun i wx => ∃ q : Nat, q ≤ N ∧ i = .int .i64 q ∧ ∃ zs : List Int, zs.length = N ∧ wx.ownsRow w3.heap.size 23 1 (.slice a4 N c4) N (zs.map (Value.int .u64)) ∧ Moved (fun k => (Value.slice a4 N c4).ownBlock = some k) w8 wx) (fun i _ => N - (intOf i).toNat)
          case atStart => exact ⟨0, Nat.zero_le _, rfl, fl, HN.out, ho8, Moved.refl _ _⟩
          case round =>
            obtain ⟨q, hq, rfl, zs, hzl, hoz, hmz⟩ := hrel
            by_cases hlq : q < N
            · obtain ⟨g, c', cur, hsv, hBg, hg⟩ := own_shape hoz (by omega)
              simp only [Value.slice.injEq] at hsv
              obtain ⟨rfl, _, rfl⟩ := hsv
              have hc1 := hoz.cellAt (g := g) q (by omega)
              have hf1 := hoz.frozenAt (g := g) q
              rw [List.getElem?_map, List.getElem?_eq_getElem (by omega)] at hc1
              obtain ⟨z, hz⟩ : ∃ z, zs[q]'(by omega) = z := ⟨_, rfl⟩
              rw [hz, Option.map_some] at hc1
              have HO := Lib.hid (own_set_any hzl hoz q (IntKind.u64.wrap (z + 1)))
              have HMZ := Lib.hid hmz
              have HZL := Lib.hid hzl
              have i1 : (q : Int) < (N : Int) := by omega
              clear hoz hmz hz hzl hg ho8 hSt8 hRo8 hB8
              go_wp2
              go_roundw
              case rel => exact ⟨q + 1, by omega, by go_num, zs.set q (IntKind.u64.wrap (z + 1)), by rw [List.length_set]; exact HZL.out, HO.out, HMZ.out.trans (Moved.of_set (S := fun k => some g = some k) _ g q _ rfl) (fun k h => .inl h)⟩
              case measure => simp [intOf]; omega
            · obtain rfl : q = N := by omega
              have hne4 : ∀ k, (Value.slice a4 q c4).ownBlock = some k → w3.heap.size ≤ k := fun k hk => (hoz.lt k hk).1
              have hSt9 := hSt8.moved hmz (fun k hk e => by have h1 := hne4 k e; have h2 := hSl3 k hk; omega)
              have hRo9 := hRo8.moved (R' := R2) hmz (fun k _ hk e => by have h1 := hne4 k e; have h2 := hR2 k hk; omega) (fun _ _ h => h)
              have hB9 := Moved.below hB8 hmz hB8.size (fun k hk => Nat.le_trans hsz8 (hne4 k hk))
              have hFin : FPlayI w w.heap.size (.slice (some ⟨yb, yo, none⟩) ys.length yc) wr := ⟨ys, S', hSt9, hRo9.weak (fun k _ hk => hRS k hk), hGe', hB9⟩
              clear hoz hmz hSt8 hRo8 hB8 ho8 hzl hSt9 hRo9 hB9
              go_wp2
              go_loopw [129] (fun i wx => i = .int .i64 0 ∧ wx = wr) (fun _ _ => 0)
              case atStart => exact ⟨rfl, rfl⟩
              case round =>
                obtain ⟨rfl, rfl⟩ := hrel
                go_wp2
                go_roundw
                case rel => exact ⟨j + 1, by omega, by go_num, hFin⟩
                case measure => simp [intOf]; omega
      · obtain rfl : j = m := by omega
        have hfew := S_few hS
        have hsg := sGet_any hS n hn0 hn1
        have hrg : ∀ q, Calls Try.prog 18 #[u6, .int .u64 n] (wr.drewN q) fun e w' => e = .returned (.tuple #[.int .u64 (getV xss n), .int .i64 (getE xss n)]) ∧ w' = wr.drewN q := fun q =>
          r17Get_any n (wr.drewN q) (hX.moved (Moved.drewN (fun _ => False) wr q) (fun _ _ _ e => e) (fun _ _ h => h)) hn0 hn1 hfew.1
        obtain ⟨E, hE⟩ : ∃ E, getE xss n = E := ⟨_, rfl⟩
        obtain ⟨F, hF⟩ : ∃ F, getV xss n = F := ⟨_, rfl⟩
        rw [hE, hF] at hsg
        have hrg' := hrg
        rw [hE, hF] at hrg'
        obtain ⟨b', o', c', _, hxv, _⟩ := hX
        subst hxv
        clear hA hS hrg hE hF hGe
        go_wp2_with fail
        refine hsg.mono ?_
        rintro e w2 ⟨rfl, q, rfl⟩
        go_wp2_with fail
        refine (hrg' q).mono ?_
        rintro e w3 ⟨rfl, rfl⟩
        go_wp2_with fail
        refine (fixed_any _).mono ?_
        rintro e w4 ⟨rfl, hb4⟩
        clear hsg hrg'
        go_wp2
        go_ret
        exact ⟨ret_bool (by simp), (below_drewN hBw q).trans (hb4.mono hBw.size)⟩
end Go.Proofs.Ytkmnlcnplnlceaa
