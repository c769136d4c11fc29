/-
  The law WalkOne, walked.
-/
import Derived.Test.YtojcdljpgginjaaDoorAll
import Derived.Test.YtojcdljpgginjaaDoorWFix
import Derived.Test.YtojcdljpgginjaaDoorLaid3
namespace Go.Proofs.YtojcdljpgginjaaDoor
open Go Go.RowKit

/-- The object at a word, its parts by names. -/
theorem one_abs (xs : List Int) (ds : List (List Int)) (at_ : Int) : ∃ (v1 : Int) (v2 : Bool) (v3 v4 v5 : Int) (ks vs : List Int) (E : Int), ∀ (O : Addr → Prop) (w : World) (e : Ending) (w' : World), OneRet O xs ds at_ w e w' →
    ∃ (y1 y2 : Option Addr) (c1 c2 : Nat), e = .returned (.tuple #[.agg #[.int .i64 v1, .int .i64 0, .bool v2, .int .i64 v3, .int .i64 v4, .int .i64 v5, .slice y1 ks.length c1, .slice y2 vs.length c2], .int .i64 E]) ∧ Below w.heap.size w w' ∧ Reads .i64 w' y1 ks ∧ Reads .u64 w' y2 vs ∧ ks.length ≤ xs.length ∧ vs.length ≤ xs.length :=
  ⟨_, _, _, _, _, _, _, _, fun _ _ _ _ ⟨y1, y2, c1, c2, he, hb, r1, r2, _, _⟩ => ⟨y1, y2, c1, c2, he, hb, r1, r2, onK_len _ _ _, onV_len _ _ _⟩⟩

/-- Where the objects of things begin, if there are all of them. -/
def atsOf (xs : List Int) (ds : List (List Int)) (rs : List (Int × Int)) : List Int := if objE xs ds rs = 0 then rs.map (fun p => thA p.1) else []
theorem atsOf_len (xs : List Int) (ds : List (List Int)) (rs : List (Int × Int)) : (atsOf xs ds rs).length ≤ rs.length := by
  rw [atsOf]; split <;> simp
theorem objRet_row {xs : List Int} {ds : List (List Int)} {rs : List (Int × Int)} {w : World} {e : Ending} {w' : World} (h : ObjRet xs ds rs w e w') :
    ∃ (a : Option Addr) (c : Nat), e = .returned (.tuple #[.slice a (atsOf xs ds rs).length c, .int .i64 (objE xs ds rs)]) ∧ Below w.heap.size w w' ∧ Objs xs ds w' a (atsOf xs ds rs) := by
  obtain ⟨v, rfl, hb, ⟨hE, rfl⟩ | ⟨hE, flat, ho, hj⟩⟩ := h
  · exact ⟨none, 0, by rw [atsOf, if_neg hE]; rfl, hb, .inl (by rw [atsOf, if_neg hE])⟩
  · obtain ⟨a, c, rfl, hO⟩ := objs_of_own ho hj
    exact ⟨a, c, by rw [atsOf, if_pos hE], hb, by rw [atsOf, if_pos hE]; exact hO⟩
theorem rObjRet_row {xs : List Int} {ds : List (List Int)} {rs : List (Int × Int)} {w : World} {e : Ending} {w' : World} (h : RObjRet xs ds rs w e w') :
    ∃ (a : Option Addr) (c : Nat), e = .returned (.tuple #[.slice a (atsOf xs ds rs).length c, .int .i64 (objE xs ds rs)]) ∧ Below w.heap.size w w' ∧ Objs xs ds w' a (atsOf xs ds rs) := by
  obtain ⟨v, rfl, hb, ⟨hE, a, c, rfl⟩ | ⟨hE, flat, ho, hj⟩⟩ := h
  · exact ⟨a, c, by rw [atsOf, if_neg hE]; rfl, hb, .inl (by rw [atsOf, if_neg hE])⟩
  · obtain ⟨a, c, rfl, hO⟩ := objs_of_own ho hj
    exact ⟨a, c, by rw [atsOf, if_pos hE], hb, by rw [atsOf, if_pos hE]; exact hO⟩

/-- What stays. -/
structure WoInv (w0 : World) (la : Option Addr) (xs : List Int) (ta : Option Addr) (ds : List (List Int)) (pa : Option Addr) (rs : List (Int × Int)) (w : World) : Prop where
  i : RInv (fun q => q.block < w0.heap.size) la xs pa rs ta ds w
  bb : Below w0.heap.size w0 w
  t : Tab w
theorem WoInv.below {w0 : World} {la : Option Addr} {xs : List Int} {ta : Option Addr} {ds : List (List Int)} {pa : Option Addr} {rs : List (Int × Int)} {w w' : World} (h : WoInv w0 la xs ta ds pa rs w) (hb : Below w.heap.size w w') : WoInv w0 la xs ta ds pa rs w' :=
  ⟨h.i.below hb, h.bb.trans (hb.mono h.bb.size), h.t.below h.t.lt hb⟩

set_option maxRecDepth 100000 in
set_option maxHeartbeats 8000000 in
theorem WalkOne_any (la : Option Addr) (xs : List Int) (lc : Nat) (ta : Option Addr) (ds : List (List Int)) (tc : Nat) (pa : Option Addr) (rs : List (Int × Int)) (pc : Nat) (w : World) (hT : Tab w) (hX : Reads .u64 w la xs) (hx : ∀ v ∈ xs, 0 ≤ v ∧ v < 18446744073709551616) (hcap : xs.length ≤ lc) (hcm : lc ≤ 9223372036854775807)
    (hDs : Descs w ta ds) (hdl : ds.length ≤ 9223372036854775807) (hRs : Runs w pa rs) (hrw : ∀ p ∈ rs, -9223372036854775808 ≤ p.1 ∧ p.1 ≤ 9223372036854775807) (hrl : rs.length ≤ 9223372036854775807) :
    Calls Tryd.prog 5 #[.slice la xs.length lc, .slice ta ds.length tc, .slice pa rs.length pc] w fun e w' => e = .returned (.bool true) ∧ Below w.heap.size w w' := by
  have hOx : xs = [] ∨ ∀ (p q : Addr), la = some p → q.block = p.block → q.block < w.heap.size := hX.lt_or.imp_right fun h p q hp hq => by rw [hq]; exact h p hp
  have H0 : Hid (WoInv w la xs ta ds pa rs w) := Lib.hid ⟨⟨hX, hDs, DescsO.start hDs, hRs⟩, Below.refl _ _, hT⟩
  have hgr := Great_any ta ds tc w hDs hdl
  have HF := Lib.hid (And.intro hx (And.intro hrw hOx))
  clear hT hX hDs hRs hx hrw hOx
  by_cases hl3 : xs.length ≤ 300
  · cases hG : greatB ds
    · obtain ⟨hd6, hd1⟩ := greatB_false hG
      have HD := Lib.hid hd1
      rw [hG] at hgr
      clear hd1 hG
      by_cases hr3 : rs.length ≤ 30
      · go_enter Tryd.func5, Tryd.ntmps5
        go_wp2_with fail
        refine hgr.mono ?_
        rintro e w1 ⟨rfl, hb⟩
        have H1 := Lib.hid (H0.out.below hb)
        clear hb hgr
        have hld := laid_any la xs lc w1 H1.out.i.x hl3
        go_wp2_with fail
        refine hld.mono ?_
        rintro e w2 ⟨rfl, hb, hM⟩
        obtain ⟨bm, hbm⟩ : ∃ x, w1.heap.size + 1 = x := ⟨_, rfl⟩
        rw [hbm] at hM
        rw [hbm]
        obtain ⟨gm, hgm⟩ : ∃ x, w1.heap.size = x := ⟨_, rfl⟩
        rw [hgm] at hM
        have H2 := Lib.hid (And.intro (H1.out.below hb) hM)
        clear hb hM hld hbm hgm
        go_wp2
        go_loopw [41] (fun i wr => ∃ q : Nat, q ≤ rs.length ∧ i = .int .i64 q ∧ Hid (WoInv w la xs ta ds pa rs wr ∧ MemAt wr bm gm xs)) (fun i _ => rs.length - (intOf i).toNat)
        case atStart => exact ⟨0, Nat.zero_le _, rfl, H2⟩
        case round =>
          obtain ⟨q, hq, rfl, HV⟩ := hrel
          by_cases hlt : q < rs.length
          · obtain ⟨bp, op, f, k, rfl, hqf, hcf, hck⟩ := HV.out.1.i.r.at_ q hlt
            have hfw := HF.out.2.1 _ (List.mem_of_getElem? hqf)
            clear hqf
            obtain ⟨v1, v2, v3, v4, v5, ks, vs, E1, hone⟩ := one_abs xs ds f
            have HONE := Lib.hid hone
            clear hone
            have hbR : Below wr.heap.size wr (wr.alloc (.cells #[.int .i64 f, .int .i64 k] 24)) := (Below.refl _ _).alloc (Nat.le_refl _) _
            have HA := Lib.hid (And.intro (HV.out.1.below hbR) (And.intro (HV.out.2.later hbR) (heap_alloc_eq wr (.cells #[.int .i64 f, .int .i64 k] 24))))
            clear hbR
            have h1 := One_any bm gm xs f ta ds tc (wr.alloc (.cells #[.int .i64 f, .int .i64 k] 24)) HA.out.1.t HA.out.2.1 HA.out.1.i.d HD.out hdl HF.out.1 hfw.2
            go_wp2_with fail
            refine h1.mono ?_
            intro e w3 hret
            obtain ⟨y1, y2, c1, c2, rfl, hb3, r1, r2, lk, lv⟩ := HONE.out _ _ _ _ hret
            have hbO : Below w3.heap.size w3 (w3.alloc (.cells #[.int .i64 v1, .int .i64 0, .bool v2, .int .i64 v3, .int .i64 v4, .int .i64 v5, .slice y1 ks.length c1, .slice y2 vs.length c2] 53)) := (Below.refl _ _).alloc (Nat.le_refl _) _
            have HB := Lib.hid (And.intro ((HA.out.1.below hb3).below hbO) (And.intro ((HA.out.2.1.later hb3).later hbO) (And.intro (heap_below hbO (heap_below hb3 HA.out.2.2 (heap_lt HA.out.2.2)) (by have := heap_lt HA.out.2.2; have := hb3.size; omega)) (And.intro (r1.below hbO) (And.intro (r2.below hbO) (heap_alloc_eq w3 (.cells #[.int .i64 v1, .int .i64 0, .bool v2, .int .i64 v3, .int .i64 v4, .int .i64 v5, .slice y1 ks.length c1, .slice y2 vs.length c2] 53)))))))
            clear hret hb3 r1 r2 hbO h1
            have h2 := rOne_any (fun q => q.block < w.heap.size) la xs lc f ta ds tc (w3.alloc (.cells #[.int .i64 v1, .int .i64 0, .bool v2, .int .i64 v3, .int .i64 v4, .int .i64 v5, .slice y1 ks.length c1, .slice y2 vs.length c2] 53)) HB.out.1.i.x (by omega) hcap hcm HB.out.1.i.d HB.out.1.i.o HF.out.2.2 (fun q hq => Nat.lt_of_lt_of_le hq HB.out.1.bb.size) HD.out HF.out.1 hfw.2
            have q0 := heap_cell HB.out.2.2.1 0
            have q1 := heap_cell HB.out.2.2.1 1
            simp at q0 q1
            go_wp2_with fail
            refine h2.mono ?_
            intro e w4 hret
            obtain ⟨z1, z2, d1, d2, rfl, hb4, s1, s2, _, _⟩ := HONE.out _ _ _ _ hret
            have hbP : Below w4.heap.size w4 (w4.alloc (.cells #[.int .i64 v1, .int .i64 0, .bool v2, .int .i64 v3, .int .i64 v4, .int .i64 v5, .slice z1 ks.length d1, .slice z2 vs.length d2] 53)) := (Below.refl _ _).alloc (Nat.le_refl _) _
            have HC := Lib.hid (And.intro ((HB.out.1.below hb4).below hbP) (And.intro ((HB.out.2.1.later hb4).later hbP) (And.intro (heap_below hbP (heap_below hb4 HB.out.2.2.2.2.2 (heap_lt HB.out.2.2.2.2.2)) (by have := heap_lt HB.out.2.2.2.2.2; have := hb4.size; omega)) (And.intro ((HB.out.2.2.2.1.below hb4).below hbP) (And.intro ((HB.out.2.2.2.2.1.below hb4).below hbP) (And.intro (s1.below hbP) (And.intro (s2.below hbP) (heap_alloc_eq w4 (.cells #[.int .i64 v1, .int .i64 0, .bool v2, .int .i64 v3, .int .i64 v4, .int .i64 v5, .slice z1 ks.length d1, .slice z2 vs.length d2] 53)))))))))
            clear hret hb4 s1 s2 hbP h2 q0 q1 hck hcf
            have h3 := oSame_any v1 0 v3 v4 v5 v2 y1 y2 z1 z2 c1 c2 d1 d2 ks vs (w4.alloc (.cells #[.int .i64 v1, .int .i64 0, .bool v2, .int .i64 v3, .int .i64 v4, .int .i64 v5, .slice z1 ks.length d1, .slice z2 vs.length d2] 53)) HC.out.2.2.2.1 HC.out.2.2.2.2.2.1 HC.out.2.2.2.2.1 HC.out.2.2.2.2.2.2.1 (by omega) (by omega)
            have a0 := heap_cell HC.out.2.2.1 0
            have a1 := heap_cell HC.out.2.2.1 1
            have a2 := heap_cell HC.out.2.2.1 2
            have a3 := heap_cell HC.out.2.2.1 3
            have a4 := heap_cell HC.out.2.2.1 4
            have a5 := heap_cell HC.out.2.2.1 5
            have a6 := heap_cell HC.out.2.2.1 6
            have a7 := heap_cell HC.out.2.2.1 7
            simp at a0 a1 a2 a3 a4 a5 a6 a7
            have b0 := heap_cell HC.out.2.2.2.2.2.2.2 0
            have b1 := heap_cell HC.out.2.2.2.2.2.2.2 1
            have b2 := heap_cell HC.out.2.2.2.2.2.2.2 2
            have b3 := heap_cell HC.out.2.2.2.2.2.2.2 3
            have b4 := heap_cell HC.out.2.2.2.2.2.2.2 4
            have b5 := heap_cell HC.out.2.2.2.2.2.2.2 5
            have b6 := heap_cell HC.out.2.2.2.2.2.2.2 6
            have b7 := heap_cell HC.out.2.2.2.2.2.2.2 7
            simp at b0 b1 b2 b3 b4 b5 b6 b7
            have y9 : (E1 != E1) = false := by simp
            go_wp2_with fail
            refine h3.mono ?_
            rintro e w5 ⟨rfl, hb5⟩
            have HE := Lib.hid (And.intro (HC.out.1.below hb5) (HC.out.2.1.later hb5))
            clear hb5 h3 a0 a1 a2 a3 a4 a5 a6 a7 b0 b1 b2 b3 b4 b5 b6 b7
            go_wp2
            go_roundw
            case rel => exact ⟨q + 1, by omega, by simp, HE⟩
            case measure => simp [intOf]; omega
          · obtain rfl : q = rs.length := by omega
            obtain ⟨ats, hats⟩ : ∃ x, atsOf xs ds rs = x := ⟨_, rfl⟩
            have hal : ats.length ≤ 1000 := by have := atsOf_len xs ds rs; rw [hats] at this; omega
            obtain ⟨E2, hE2⟩ : ∃ x, objE xs ds rs = x := ⟨_, rfl⟩
            have HAT := Lib.hid (And.intro hats hE2)
            have y9 : (E2 == E2) = true := by simp
            clear hats hE2
            have h4 := callsIn_wide.1 (objs_in bm gm xs pa rs pc ta ds tc wr HV.out.1.t HV.out.2 HV.out.1.i.d HV.out.1.i.r HD.out hd6 (by omega) HF.out.1 HF.out.2.1)
            go_wp2_with fail
            refine h4.mono ?_
            intro e w3 hret
            obtain ⟨a3, c3, rfl, hb3, ho3⟩ := objRet_row hret
            rw [HAT.out.1] at ho3
            rw [HAT.out.1, HAT.out.2]
            have HA := Lib.hid (And.intro (HV.out.1.below hb3) (And.intro (HV.out.2.later hb3) ho3))
            clear hret hb3 ho3 h4
            have h5 := rObjs_any (fun q => q.block < w.heap.size) la xs lc pa rs pc ta ds tc w3 HA.out.1.i.x (by omega) hcap hcm HA.out.1.i.d HA.out.1.i.o HF.out.2.2 (fun q hq => Nat.lt_of_lt_of_le hq HA.out.1.bb.size) HA.out.1.i.r HD.out (by omega) HF.out.1 HF.out.2.1
            go_wp2_with fail
            refine h5.mono ?_
            intro e w4 hret
            obtain ⟨a4, c4, rfl, hb4, ho4⟩ := rObjRet_row hret
            rw [HAT.out.1] at ho4
            rw [HAT.out.1, HAT.out.2]
            have HB := Lib.hid (And.intro (HA.out.1.below hb4) (And.intro (HA.out.2.1.later hb4) (And.intro (HA.out.2.2.below hb4) ho4)))
            clear hret hb4 ho4 h5
            go_wp2_with fail
            refine (callsIn_wide.1 (objsNil_any _ _ _ _ _ _ _)).mono ?_
            rintro e w5 ⟨rfl, hb5⟩
            have HC := Lib.hid (And.intro (HB.out.1.below hb5) (And.intro (HB.out.2.1.later hb5) (And.intro (HB.out.2.2.1.below hb5) (HB.out.2.2.2.below hb5))))
            clear hb5
            go_wp2_with fail
            refine (OneNil_any _ _ _).mono ?_
            rintro e w6 ⟨rfl, hb6⟩
            have hbO : Below w6.heap.size w6 (w6.alloc (.cells #[.int .i64 0, .int .i64 0, .bool false, .int .i64 0, .int .i64 0, .int .i64 0, .slice none 0 0, .slice none 0 0] 53)) := (Below.refl _ _).alloc (Nat.le_refl _) _
            have HE := Lib.hid (And.intro ((HC.out.1.below hb6).below hbO) (And.intro ((HC.out.2.1.later hb6).later hbO) (And.intro ((HC.out.2.2.1.below hb6).below hbO) ((HC.out.2.2.2.below hb6).below hbO))))
            clear hb6 hbO
            go_wp2_with fail
            refine (wfixed_any _ HE.out.1.t).mono ?_
            rintro e w7 ⟨rfl, hb7⟩
            have HG := Lib.hid (And.intro (HE.out.1.below hb7) (And.intro (HE.out.2.1.later hb7) (And.intro (HE.out.2.2.1.below hb7) (HE.out.2.2.2.below hb7))))
            clear hb7
            have h8 := All_any xs ds (by omega) a3 a4 c3 c4 ats w7 HG.out.2.2.1 HG.out.2.2.2 hal
            go_wp2_with fail
            refine h8.mono ?_
            rintro e w8 ⟨rfl, hb8⟩
            have HH := Lib.hid (And.intro (HG.out.1.below hb8) (HG.out.2.1.later hb8))
            clear hb8 h8
            go_wp2_with fail
            refine (wAll_any _ _ _ _ HH.out.2).mono ?_
            rintro e w9 ⟨v9, rfl, hb9, ho9⟩
            obtain ⟨a9, c9, rfl, hr9, _⟩ := owns_reads ho9
            have HI := Lib.hid (HH.out.1.below hb9)
            have hs := Same_any a9 la c9 lc xs xs w9 hr9 HI.out.i.x (by omega)
            rw [show decide (xs = xs) = true by simp] at hs
            clear hb9 ho9 hr9
            go_wp2_with fail
            refine hs.mono ?_
            rintro e w10 ⟨rfl, hb10⟩
            have hB10 := HI.out.bb.trans (hb10.mono HI.out.bb.size)
            clear hb10 hs
            go_wp2
            go_ret
            exact ⟨rfl, hB10⟩
      · go_enter Tryd.func5, Tryd.ntmps5
        go_wp2_with fail
        refine hgr.mono ?_
        rintro e w1 ⟨rfl, hb⟩
        have H1 := Lib.hid (H0.out.below hb)
        clear hb hgr
        go_wp2_with fail
        refine (wfixed_any _ H1.out.t).mono ?_
        rintro e w9 ⟨rfl, hb9⟩
        have hB9 := H1.out.bb.trans (hb9.mono H1.out.bb.size)
        clear hb9
        go_wp2
        go_ret
        exact ⟨rfl, hB9⟩
    · rw [hG] at hgr
      clear hG
      go_enter Tryd.func5, Tryd.ntmps5
      go_wp2_with fail
      refine hgr.mono ?_
      rintro e w1 ⟨rfl, hb⟩
      have H1 := Lib.hid (H0.out.below hb)
      clear hb hgr
      go_wp2_with fail
      refine (wfixed_any _ H1.out.t).mono ?_
      rintro e w9 ⟨rfl, hb9⟩
      have hB9 := H1.out.bb.trans (hb9.mono H1.out.bb.size)
      clear hb9
      go_wp2
      go_ret
      exact ⟨rfl, hB9⟩
  · clear hgr
    go_enter Tryd.func5, Tryd.ntmps5
    go_wp2_with fail
    refine (wfixed_any _ H0.out.t).mono ?_
    rintro e w9 ⟨rfl, hb9⟩
    have hB9 := H0.out.bb.trans (hb9.mono H0.out.bb.size)
    clear hb9
    go_wp2
    go_ret
    exact ⟨rfl, hB9⟩
end Go.Proofs.YtojcdljpgginjaaDoor
