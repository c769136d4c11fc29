/-
  The law DescRelaxes, walked.
-/
import Derived.Test.YtppdiikjigacpaaDoorRRelax
import Derived.Test.YtppdiikjigacpaaDoorDM
namespace Go.Proofs.YtppdiikjigacpaaDoor
open Go Go.RowKit

theorem kindsD_rel (d : List Int) : mayD (relD d) = mayD d := by
  unfold mayD
  rw [relD_length]
  congr 1
  unfold relD
  rw [List.all_map]
  congr 1
  funext x
  exact relK_kind x
theorem listD_rel (ds : List (List Int)) : listD (ds.map relD) = listD ds := by
  unfold listD
  rw [List.length_map, List.all_map]
  congr 1
  congr 1
  funext x
  exact kindsD_rel x

/-- What stays. -/
structure RInv (w0 : World) (a aA aB aG : Option Addr) (ds ds1 : List (List Int)) (w : World) : Prop where
  t : Tab w
  d : Descs w a ds
  A : Descs w aA ds1
  B : Descs w aB ds1
  G : Descs w aG ds1
  b : Below w0.heap.size w0 w
theorem RInv.below {w0 : World} {a aA aB aG : Option Addr} {ds ds1 : List (List Int)} {w w' : World} (h : RInv w0 a aA aB aG ds ds1 w) (hb : Below w.heap.size w w') : RInv w0 a aA aB aG ds ds1 w' :=
  ⟨h.t.below h.t.lt hb, h.d.below hb, h.A.below hb, h.B.below hb, h.G.below hb, h.b.trans (hb.mono h.b.size)⟩
theorem rel_keep {w0 : World} {a : Option Addr} {bA oA bB oB bG oG j : Nat} {fA fB fG : Option Addr} {cA cB cG : Nat} {dd : List Int} {ds ds1 : List (List Int)} {w1 w2 : World} (hb : Below w1.heap.size w1 w2) (h : w1.cell? ⟨bA, oA + j, none⟩ = some (.slice fA dd.length cA) ∧ w1.cell? ⟨bB, oB + j, none⟩ = some (.slice fB dd.length cB) ∧ w1.cell? ⟨bG, oG + j, none⟩ = some (.slice fG dd.length cG) ∧ Reads .i64 w1 fA dd ∧ Reads .i64 w1 fB dd ∧ Reads .i64 w1 fG dd ∧ RInv w0 a (some ⟨bA, oA, none⟩) (some ⟨bB, oB, none⟩) (some ⟨bG, oG, none⟩) ds ds1 w1) : w2.cell? ⟨bA, oA + j, none⟩ = some (.slice fA dd.length cA) ∧ w2.cell? ⟨bB, oB + j, none⟩ = some (.slice fB dd.length cB) ∧ w2.cell? ⟨bG, oG + j, none⟩ = some (.slice fG dd.length cG) ∧ Reads .i64 w2 fA dd ∧ Reads .i64 w2 fB dd ∧ Reads .i64 w2 fG dd ∧ RInv w0 a (some ⟨bA, oA, none⟩) (some ⟨bB, oB, none⟩) (some ⟨bG, oG, none⟩) ds ds1 w2 :=
  ⟨(hb.cell (cell_lt h.1)).trans h.1, (hb.cell (cell_lt h.2.1)).trans h.2.1, (hb.cell (cell_lt h.2.2.1)).trans h.2.2.1, h.2.2.2.1.below hb, h.2.2.2.2.1.below hb, h.2.2.2.2.2.1.below hb, h.2.2.2.2.2.2.below hb⟩
theorem rel_call1 {w0 : World} {a : Option Addr} {bA oA bB oB bG oG j : Nat} {fA fB fG : Option Addr} {cA cB cG : Nat} {dd : List Int} {ds ds1 : List (List Int)} {w : World} (h : w.cell? ⟨bA, oA + j, none⟩ = some (.slice fA dd.length cA) ∧ w.cell? ⟨bB, oB + j, none⟩ = some (.slice fB dd.length cB) ∧ w.cell? ⟨bG, oG + j, none⟩ = some (.slice fG dd.length cG) ∧ Reads .i64 w fA dd ∧ Reads .i64 w fB dd ∧ Reads .i64 w fG dd ∧ RInv w0 a (some ⟨bA, oA, none⟩) (some ⟨bB, oB, none⟩) (some ⟨bG, oG, none⟩) ds ds1 w) (hn : dd.length ≤ 100) :
    Calls Tryd.prog 10 #[.slice fA dd.length cA, .slice fB dd.length cB] w fun e w' => e = .returned (.bool true) ∧ Below w.heap.size w w' := by
  have := SameI_any fA fB cA cB dd dd w h.2.2.2.1 h.2.2.2.2.1 (by omega)
  simpa using this
theorem rel_call2 {w0 : World} {a : Option Addr} {bA oA bB oB bG oG j : Nat} {fA fB fG : Option Addr} {cA cB cG : Nat} {dd : List Int} {ds ds1 : List (List Int)} {w : World} (h : w.cell? ⟨bA, oA + j, none⟩ = some (.slice fA dd.length cA) ∧ w.cell? ⟨bB, oB + j, none⟩ = some (.slice fB dd.length cB) ∧ w.cell? ⟨bG, oG + j, none⟩ = some (.slice fG dd.length cG) ∧ Reads .i64 w fA dd ∧ Reads .i64 w fB dd ∧ Reads .i64 w fG dd ∧ RInv w0 a (some ⟨bA, oA, none⟩) (some ⟨bB, oB, none⟩) (some ⟨bG, oG, none⟩) ds ds1 w) (hn : dd.length ≤ 100) :
    Calls Tryd.prog 10 #[.slice fG dd.length cG, .slice fA dd.length cA] w fun e w' => e = .returned (.bool true) ∧ Below w.heap.size w w' := by
  have := SameI_any fG fA cG cA dd dd w h.2.2.2.2.2.1 h.2.2.2.1 (by omega)
  simpa using this

set_option maxRecDepth 100000 in
set_option maxHeartbeats 8000000 in
theorem DescRelaxes_any (a : Option Addr) (ds : List (List Int)) (c : Nat) (w0 : World) (hT : Tab w0) (hD : Descs w0 a ds) (hn : ds.length ≤ 9223372036854775807) :
    Calls Tryd.prog 5 #[.slice a ds.length c] w0 fun e w' => e = .returned (.bool true) ∧ Below w0.heap.size w0 w' := by
  have hg := Great_any a ds c w0 hD hn
  have H0 := Lib.hid (And.intro hT hD)
  clear hT hD
  cases hgr : greatB ds
  · obtain ⟨q1, q2⟩ := greatB_false hgr
    rw [hgr] at hg
    obtain ⟨ds1, hds1⟩ : ∃ q, q = ds.map relD := ⟨_, rfl⟩
    have hl1 : ds1.length = ds.length := by rw [hds1, List.length_map]
    have hd1 : ∀ d ∈ ds1, d.length ≤ 100 := by
      intro d hd
      rw [hds1] at hd
      obtain ⟨x, hx, rfl⟩ := List.mem_map.1 hd
      rw [relD_length]
      exact q2 x hx
    have htw : ds1.map relD = ds1 := by
      rw [hds1, List.map_map]
      congr 1
      funext x
      exact relD_twice x
    have hls : listD ds1 = listD ds := by rw [hds1]; exact listD_rel ds
    have hget : ∀ (j : Nat) d, ds[j]? = some d → ds1[j]? = some (relD d) := by intro j d h; rw [hds1, List.getElem?_map, h]; rfl
    have HQ := Lib.hid (And.intro q2 (And.intro hd1 (And.intro htw (And.intro hls (And.intro hl1 hget)))))
    have hdr : ds.map relD = ds1 := hds1.symm
    have HDR := Lib.hid hdr
    clear q2 hgr hds1 hl1 hd1 htw hls hdr hget
    obtain ⟨LB, hLB⟩ : ∃ q, listD ds = q := ⟨_, rfl⟩
    have HLB := Lib.hid hLB
    clear hLB
    have x1 : (ds1.length : Int) ≤ 60 := by have := HQ.out.2.2.2.2.1; omega
    have x2 : ((ds1.length : Int) != (ds1.length : Int)) = false := by simp
    have x3 : (LB != LB) = false := by simp
    go_enter Tryd.func5, Tryd.ntmps5
    go_wp2_with fail
    refine hg.mono ?_
    rintro e w1 ⟨rfl, hb⟩
    have H1 := Lib.hid (And.intro (H0.out.1.below H0.out.1.lt hb) (And.intro (H0.out.2.below hb) hb))
    clear hg hb
    have hr := Relax_any a ds c w1 H1.out.1 H1.out.2.1 HQ.out.1 q1
    rw [HDR.out] at hr
    go_wp2_with fail
    refine hr.mono ?_
    rintro e w2 ⟨aA, nA, rfl, hb, hA⟩
    have H2 := Lib.hid (And.intro (H1.out.1.below H1.out.1.lt hb) (And.intro (H1.out.2.1.below hb) (And.intro (H1.out.2.2.trans (hb.mono H1.out.2.2.size)) hA)))
    clear hr hb hA
    have hr := rRelax_any a ds c w2 H2.out.2.1 HQ.out.1 q1
    rw [HDR.out] at hr
    go_wp2_with fail
    refine hr.mono ?_
    rintro e w3 ⟨aB, nB, rfl, hb, hB⟩
    have H3 := Lib.hid (And.intro (H2.out.1.below H2.out.1.lt hb) (And.intro (H2.out.2.1.below hb) (And.intro (H2.out.2.2.1.trans (hb.mono H2.out.2.2.1.size)) (And.intro (H2.out.2.2.2.below hb) hB))))
    clear hr hb hB
    have hr := Relax_any a ds c w3 H3.out.1 H3.out.2.1 HQ.out.1 q1
    rw [HDR.out] at hr
    go_wp2_with fail
    refine hr.mono ?_
    rintro e w4 ⟨aT, nT, rfl, hb, hTt⟩
    have H4 := Lib.hid (And.intro (H3.out.1.below H3.out.1.lt hb) (And.intro (H3.out.2.1.below hb) (And.intro (H3.out.2.2.1.trans (hb.mono H3.out.2.2.1.size)) (And.intro (H3.out.2.2.2.1.below hb) (H3.out.2.2.2.2.below hb)))))
    have HTT := Lib.hid hTt
    clear hr hb hTt
    have hr := Relax_any aT ds1 nT w4 H4.out.1 HTT.out HQ.out.2.1 (by omega)
    rw [HQ.out.2.2.1] at hr
    go_wp2_with fail
    refine hr.mono ?_
    rintro e w5 ⟨aG, nG, rfl, hb, hG⟩
    have H5 : Hid (RInv w0 a aA aB aG ds ds1 w5) := Lib.hid ⟨H4.out.1.below H4.out.1.lt hb, H4.out.2.1.below hb, H4.out.2.2.2.1.below hb, H4.out.2.2.2.2.below hb, hG, H4.out.2.2.1.trans (hb.mono H4.out.2.2.1.size)⟩
    clear hr hb hG
    have hd4 : ∀ d ∈ ds, d.length ≤ 4000 := fun d hd => by have := HQ.out.1 d hd; omega
    have hd5 : ∀ d ∈ ds1, d.length ≤ 4000 := fun d hd => by have := HQ.out.2.1 d hd; omega
    have hL := List_any aA ds1 nA w5 H5.out.t H5.out.A hd5 (by omega)
    rw [HQ.out.2.2.2.1, HLB.out] at hL
    have HD4 := Lib.hid hd4
    clear hd4 hd5
    go_wp2_with fail
    refine hL.mono ?_
    rintro e w6 ⟨rfl, hb⟩
    have H6 := Lib.hid (H5.out.below hb)
    clear hL hb
    have hL := List_any a ds c w6 H6.out.t H6.out.d HD4.out hn
    rw [HLB.out] at hL
    go_wp2_with fail
    refine hL.mono ?_
    rintro e w7 ⟨rfl, hb⟩
    have H7 := Lib.hid (H6.out.below hb)
    clear hL hb H0 H1 H2 H3 H4 H5 H6 HTT
    go_wp2
    go_loopw [40, 6] (fun i _ wr => ∃ j : Nat, j ≤ ds1.length ∧ i = .int .i64 j ∧ Hid (RInv w0 a aA aB aG ds ds1 wr)) (fun i _ _ => ds1.length - (intOf i).toNat)
    case atStart => exact ⟨0, Nat.zero_le _, rfl, H7⟩
    case round =>
      obtain ⟨j, hj, rfl, HI⟩ := hrel
      obtain ⟨wo, rfl⟩ : ∃ wo : World, wo = wr := ⟨_, rfl⟩
      by_cases hlt : j < ds1.length
      · obtain ⟨bA, oA, fA, cA, dd, rfl, hdd, hcA, hrA, _⟩ := HI.out.A.at_ j hlt
        obtain ⟨bB, oB, fB, cB, dd', rfl, hdd', hcB, hrB, _⟩ := HI.out.B.at_ j hlt
        obtain rfl : dd' = dd := by rw [hdd] at hdd'; cases hdd'; rfl
        obtain ⟨bG, oG, fG, cG, dd'', rfl, hdd'', hcG, hrG, _⟩ := HI.out.G.at_ j hlt
        obtain rfl : dd'' = dd' := by rw [hdd] at hdd''; cases hdd''; rfl
        obtain ⟨bL, oL, fL, cL, d, rfl, hdL, hcL, hrL, _⟩ := HI.out.d.at_ j (by have := HQ.out.2.2.2.2.1; omega)
        have hdr : dd'' = relD d := by
          have := HQ.out.2.2.2.2.2 j d hdL
          rw [hdd] at this
          cases this
          rfl
        obtain ⟨dd, rfl⟩ : ∃ q, q = dd'' := ⟨_, rfl⟩
        have hdl : dd.length ≤ 100 := HQ.out.2.1 dd (List.mem_of_getElem? hdd)
        have hll : d.length = dd.length := by rw [hdr, relD_length]
        have HDL := Lib.hid (And.intro hdr (And.intro hll hdL))
        have i0 : (0 : Int) ≤ (j : Int) := by omega
        have i1 : (j : Int) < (ds1.length : Int) := by omega
        have hS : wo.cell? ⟨bA, oA + j, none⟩ = some (.slice fA dd.length cA) ∧ wo.cell? ⟨bB, oB + j, none⟩ = some (.slice fB dd.length cB) ∧ wo.cell? ⟨bG, oG + j, none⟩ = some (.slice fG dd.length cG) ∧ Reads .i64 wo fA dd ∧ Reads .i64 wo fB dd ∧ Reads .i64 wo fG dd ∧ RInv w0 (some ⟨bL, oL, none⟩) (some ⟨bA, oA, none⟩) (some ⟨bB, oB, none⟩) (some ⟨bG, oG, none⟩) ds ds1 wo := ⟨hcA, hcB, hcG, hrA, hrB, hrG, HI.out⟩
        clear hdd hdd' hdd'' hdL hdr hll hrL hcL hrA hrB hrG hcA hcB hcG HI
        have HS := Lib.hid hS
        clear hS
        go_wp2
        have hS := HS.out
        obtain ⟨s0, s1, s2, s3, s4, s5, s6⟩ := hS
        have hSd : wo.drew.cell? ⟨bA, oA + j, none⟩ = some (.slice fA dd.length cA) ∧ wo.drew.cell? ⟨bB, oB + j, none⟩ = some (.slice fB dd.length cB) ∧ wo.drew.cell? ⟨bG, oG + j, none⟩ = some (.slice fG dd.length cG) ∧ Reads .i64 wo.drew fA dd ∧ Reads .i64 wo.drew fB dd ∧ Reads .i64 wo.drew fG dd ∧ RInv w0 (some ⟨bL, oL, none⟩) (some ⟨bA, oA, none⟩) (some ⟨bB, oB, none⟩) (some ⟨bG, oG, none⟩) ds ds1 wo.drew := rel_keep (w1 := wo) ⟨rfl, rfl, rfl, Nat.le_refl _, fun _ _ => rfl⟩ ⟨s0, s1, s2, s3, s4, s5, s6⟩
        go_region_held3 (fun w' => w'.cell? ⟨bA, oA + j, none⟩ = some (.slice fA dd.length cA) ∧ w'.cell? ⟨bB, oB + j, none⟩ = some (.slice fB dd.length cB) ∧ w'.cell? ⟨bG, oG + j, none⟩ = some (.slice fG dd.length cG) ∧ Reads .i64 w' fA dd ∧ Reads .i64 w' fB dd ∧ Reads .i64 w' fG dd ∧ RInv w0 (some ⟨bL, oL, none⟩) (some ⟨bA, oA, none⟩) (some ⟨bB, oB, none⟩) (some ⟨bG, oG, none⟩) ds ds1 w')
          (first | assumption | exact hSd | exact hSd.1 | exact hSd.2.1 | exact hSd.2.2.1 | exact hSd.2.2.2.1 | exact hSd.2.2.2.2.1 | exact hSd.2.2.2.2.2.1 | exact hSd.2.2.2.2.2.2 | (go_keep; done) | exact rel_keep (by assumption) (by assumption))
          (first
            | (go_at_call 10; with_reducible refine (rel_call1 (by assumption) hdl).mono ?_; rintro e w' ⟨rfl, hb'⟩)
            | (go_at_call 10; with_reducible refine (rel_call2 (by assumption) hdl).mono ?_; rintro e w' ⟨rfl, hb'⟩))
        rename_i hS
        obtain ⟨t0, t1, t2, t3, t4, t5, t6⟩ := hS
        obtain ⟨_, _, fL', cL', d', e', hdL', hcL', hrL', _⟩ := t6.d.at_ j (by have := HQ.out.2.2.2.2.1; omega)
        cases e'
        obtain rfl : d' = d := by rw [HDL.out.2.2] at hdL'; cases hdL'; rfl
        have HZ := Lib.hid (And.intro t3 (And.intro hrL' (And.intro t6 (And.intro t0 hcL'))))
        have x5 : (j : Int) < (ds.length : Int) := by have := HQ.out.2.2.2.2.1; omega
        clear t1 t2 t3 t4 t5 t6 hdL' hrL' s0 s1 s2 s3 s4 s5 s6 hSd hcL'
        go_wp2
        clear t0
        go_loopw [75, 7, 8] (fun i _ _ wr => ∃ m : Nat, m ≤ dd.length ∧ i = .int .i64 m ∧ Hid (∃ q, wr = w'.drewN q)) (fun i _ _ _ => dd.length - (intOf i).toNat)
        case atStart => exact ⟨0, Nat.zero_le _, rfl, Lib.hid ⟨0, rfl⟩⟩
        case round =>
          obtain ⟨m, hm, rfl, HW⟩ := hrel
          have hbz : Below w'.heap.size w' wr := by obtain ⟨q, hq⟩ := HW.out; rw [hq]; exact below_drewN (Below.refl _ _) q
          by_cases hlm : m < dd.length
          · obtain ⟨b1, o1, rfl, k1⟩ := (HZ.out.1.below hbz).at_ m hlm
            obtain ⟨b2, o2, rfl, k2⟩ := (HZ.out.2.1.below hbz).at_ m (by have := HDL.out.2.1; omega)
            have kL : wr.cell? ⟨bL, oL + j, none⟩ = some (.slice (some ⟨b2, o2, none⟩) d'.length cL') := (hbz.cell (cell_lt HZ.out.2.2.2.2)).trans HZ.out.2.2.2.2
            obtain ⟨x, hx⟩ : ∃ x, d'[m]?.getD 0 = x := ⟨_, rfl⟩
            obtain ⟨y, hy⟩ : ∃ y, dd[m]?.getD 0 = y := ⟨_, rfl⟩
            have hyx : y = relK x := by
              have h1 : m < d'.length := by have := HDL.out.2.1; omega
              rw [← hy, ← hx, HDL.out.1]
              simp [relD, h1]
            rw [hx] at k2
            rw [hy] at k1
            have hT9 : ∀ n, Tab (wr.drewN n) := fun n => (HZ.out.2.2.1.t.below HZ.out.2.2.1.t.lt hbz).below (HZ.out.2.2.1.t.below HZ.out.2.2.1.t.lt hbz).lt (below_drewN (Below.refl _ _) n)
            obtain ⟨B, hB⟩ : ∃ B, isPtr x = B := ⟨_, rfl⟩
            have HP1 : Hid (∀ n, Calls Tryd.prog 16 #[.int .i64 y] (wr.drewN n) fun e w2 => e = .returned (.bool B) ∧ w2 = wr.drewN n) := by
              refine Lib.hid fun n => (Pointer_any y _ (hT9 n)).mono ?_
              rintro e w2 ⟨rfl, rfl⟩
              exact ⟨by rw [hyx, relK_ptr, hB], rfl⟩
            have HP2 : Hid (∀ n, Calls Tryd.prog 16 #[.int .i64 x] (wr.drewN n) fun e w2 => e = .returned (.bool B) ∧ w2 = wr.drewN n) := by
              refine Lib.hid fun n => (Pointer_any x _ (hT9 n)).mono ?_
              rintro e w2 ⟨rfl, rfl⟩
              exact ⟨by rw [hB], rfl⟩
            have y1 : (0 : Int) ≤ (m : Int) := by omega
            have y2 : (m : Int) < (dd.length : Int) := by omega
            have y3 : (m : Int) < (d'.length : Int) := by have := HDL.out.2.1; omega
            have y4 : (B != B) = false := by simp
            clear hx hy hyx hT9 hB hbz
            go_wp2
            go_quiet ((first | (go_at_call 16; exact Calls.quiet_of_same (HP1.out _)) | (go_at_call 16; exact Calls.quiet_of_same (HP2.out _))))
            go_wp2
            go_roundw
            case rel => exact ⟨m + 1, by omega, by go_num, Lib.hid (by obtain ⟨q, hq⟩ := HW.out; exact ⟨q + nq, by rw [hq, World.drewN_drewN]⟩)⟩
            case measure => simp [intOf]; omega
          · obtain rfl : m = dd.length := by omega
            have HI2 := Lib.hid (HZ.out.2.2.1.below hbz)
            clear hbz
            go_wp2
            go_roundw
            case rel => exact ⟨j + 1, by omega, by go_num, HI2⟩
            case measure => simp [intOf]; omega
      · obtain rfl : j = ds1.length := by omega
        go_wp2_with fail
        refine (fixed_any _ HI.out.t).mono ?_
        rintro e w9 ⟨rfl, hb9⟩
        have hBe := HI.out.b.trans (hb9.mono HI.out.b.size)
        clear hb9
        go_wp2
        go_ret
        exact ⟨rfl, hBe⟩
  · rw [hgr] at hg
    clear hgr
    go_enter Tryd.func5, Tryd.ntmps5
    go_wp2_with fail
    refine hg.mono ?_
    rintro e w1 ⟨rfl, hb⟩
    have H1 := Lib.hid (And.intro (H0.out.1.below H0.out.1.lt hb) hb)
    clear hg hb
    go_wp2_with fail
    refine (fixed_any _ H1.out.1).mono ?_
    rintro e w9 ⟨rfl, hb9⟩
    go_wp2
    go_ret
    exact ⟨rfl, H1.out.2.trans (hb9.mono H1.out.2.size)⟩
end Go.Proofs.YtppdiikjigacpaaDoor
