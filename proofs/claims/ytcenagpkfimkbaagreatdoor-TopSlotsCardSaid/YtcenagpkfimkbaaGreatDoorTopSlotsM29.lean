/-
  Contracts of functions of the program, laid together.
-/
import Derived.Test.YtcenagpkfimkbaaGreatDoorTopSlotsM11
import Derived.Test.YtcenagpkfimkbaaGreatDoorTopSlotsM27
namespace Go.Proofs.YtcenagpkfimkbaaGreatDoor
open Go Go.RowKit

def keysL {α : Type} (m : IM α) : List Int := m.map (·.1)
structure LvInv (w wr : World) (mb : Nat) (m : IM Value) (done : List Int) (v : Value) : Prop where
  it : IterAt .i64 3 wr mb w.heap.size m done
  bl : Below w.heap.size w wr
  own : wr.ownsRow (w.heap.size + 1) 3 1 v done.length (done.map (Value.int .i64))
  sz : w.heap.size < wr.heap.size
  mbl : mb < w.heap.size
section
variable {w wr w2 w3 : World} {mb : Nat} {m : IM Value} {done : List Int} {v : Value} {x : Int}
theorem LvInv.next (h : LvInv w wr mb m done v) (hit : IterAt .i64 3 w2 mb w.heap.size m (done ++ [x])) (hg : wr.grownBy w2 (some w.heap.size)) (hs : w2.heap.size = wr.heap.size) :
    IterAt .i64 3 w2 mb w.heap.size m (done ++ [x]) ∧ Below w.heap.size w w2 ∧ w2.ownsRow (w.heap.size + 1) 3 1 v done.length (done.map (Value.int .i64)) ∧ w.heap.size < w2.heap.size := by
  have hm : Moved (fun k => k = w.heap.size) wr w2 := Moved.of_grown hg (S := fun k => k = w.heap.size) (fun k e => by cases e; rfl)
  refine ⟨hit, ⟨hg.os.trans h.bl.os, hg.tape.trans h.bl.tape, hg.output.trans h.bl.output, by rw [hs]; exact h.bl.size, fun k hk => ?_⟩, hm.owns h.own (fun k hk e => ?_), by rw [hs]; exact h.sz⟩
  · rw [hg.block k (by have := h.bl.size; omega) (by simp; omega)]
    exact h.bl.block k hk
  · have := (h.own.lt k hk).1
    omega
theorem lv_len (h : LvInv w wr mb m done v) (hl : m.length ≤ 1000000) : done.length ≤ 1000000000 := by
  have h1 : done.length ≤ (m.map (·.1)).length := by
    have hr : Rising m := h.it.map.2
    have hn : (m.map (·.1)).Nodup := (List.pairwise_map.2 hr : (m.map (·.1)).Pairwise (fun a c => a < c)).imp (fun h => by omega)
    have hp : done.Perm ((m.map (·.1)).filter (fun x => done.contains x)) := by
      refine (List.perm_ext_iff_of_nodup h.it.nodup (hn.filter _)).2 fun x => ⟨fun hx => ?_, fun hx => ?_⟩
      · obtain ⟨u, hu⟩ := Option.isSome_iff_exists.1 (h.it.has x hx)
        exact List.mem_filter.2 ⟨List.mem_map.2 ⟨(x, u), (lk_some hr).1 hu, rfl⟩, List.contains_iff_mem.2 hx⟩
      · exact List.contains_iff_mem.1 (List.mem_filter.1 hx).2
    rw [hp.length_eq]
    exact List.length_filter_le _ _
  simp at h1
  omega
theorem lv_all (h : LvInv w wr mb m done v) (ha : ∀ x, (lk m x).isSome = true → x ∈ done) : (done.mergeSort fun x y => decide (x ≤ y)) = keysL m :=
  sort_rising (h.it.all ha) (List.pairwise_map.2 h.it.map.2)
theorem LvInv.app {v' : Value} {o : Obj} (hit : IterAt .i64 3 w2 mb w.heap.size m (done ++ [x])) (hbl : Below w.heap.size w w2) (hown : w2.ownsRow (w.heap.size + 1) 3 1 v done.length (done.map (Value.int .i64))) (hsz : w.heap.size < w2.heap.size) (hmb : mb < w.heap.size)
    (ho : w3.ownsRow (w.heap.size + 1) 3 1 v' (done.length + 1) (done.map (Value.int .i64) ++ [.int .i64 x])) (hg : (w2.alloc o).grownBy w3 v.ownBlock) : LvInv w w3 mb m (done ++ [x]) v' := by
  have hv : ∀ k, v.ownBlock = some k → w.heap.size + 1 ≤ k := fun k hk => (hown.lt k hk).1
  have hw2 : (w2.alloc o).heap.size = w2.heap.size + 1 := by simp
  refine ⟨(hit.moved (World.grownBy_alloc w2 o none) (by simp) (by simp)).moved hg (fun e => by have := hv _ e.symm; omega) (fun e => by have := hv _ e.symm; omega), below_row (wr := w2.alloc o) (hbl.alloc (by omega) _) hg (fun k hk => by have := hv k hk; omega), by simpa using ho, by have := hg.size; omega, hmb⟩
theorem lv_left {o : Obj} (hown : w2.ownsRow (w.heap.size + 1) 3 1 v done.length (done.map (Value.int .i64))) (hsz : w.heap.size < w2.heap.size) (hmb : mb < w.heap.size) (hg : (w2.alloc o).grownBy w3 v.ownBlock) : w3.rangeLeft mb w.heap.size = w2.rangeLeft mb w.heap.size := by
  have hv : ∀ k, v.ownBlock = some k → w.heap.size + 1 ≤ k := fun k hk => (hown.lt k hk).1
  have key : ∀ k, k ≤ w.heap.size → w3.heap[k]? = w2.heap[k]? := fun k hk => by
    rw [hg.block k (by simp; omega) (fun e => by have := hv k e.symm; omega), (World.grownBy_alloc w2 o none).block k (by omega) (by simp)]
  unfold World.rangeLeft
  rw [key mb (by omega), key _ (Nat.le_refl _)]
theorem lv_row (h : LvInv w wr mb m done v) : ∀ k, v.ownBlock = some k → w.heap.size ≤ k := fun k hk => by
  have := (h.own.lt k hk).1
  omega
end
set_option maxRecDepth 100000 in
set_option maxHeartbeats 2000000 in
theorem iAll_any {bb mb : Nat} {l : IM Unit} {last most : Int} {w : World} (h : BookAt w bb mb l last most) (hl : l.length ≤ 1000000) :
    Calls Tryz.prog 85 #[.pointer (some ⟨bb, 0, none⟩)] w fun e w' => ∃ v, e = .returned v ∧ Below w.heap.size w w' ∧ w'.ownsRow w.heap.size 3 1 v (keysL l).length ((keysL l).map (Value.int .i64)) := by
  have c0 := heap_cell h.blk 0
  simp at c0
  have ek : keysL (mapV unitV l) = keysL l := by simp [keysL, mapV]
  have hl' : (mapV unitV l).length ≤ 1000000 := by rw [mapV_length]; exact hl
  obtain ⟨w1, hr1, hi1, hg1, hs1⟩ := h.map.range Tryz.underlying3 Tryz.underlying187
  have HI : Hid (LvInv w w1 mb (mapV unitV l) [] (.slice none 0 0)) := Lib.hid ⟨hi1, ⟨hg1.os, hg1.tape, hg1.output, hg1.size, fun k hk => hg1.block k hk (by simp)⟩, World.ownsRow_nil _ _ _ _, by omega, h.map.lt⟩
  rw [← ek]
  clear ek
  generalize mapV unitV l = m at *
  clear hi1 hg1 hs1 h
  go_enter Tryz.func85, Tryz.ntmps85
  go_wp2
  go_loopw [3, 4] (fun o _ wr => ∃ done, Hid (LvInv w wr mb m done o)) (fun _ _ wr => wr.rangeLeft mb w.heap.size)
  case atStart => exact ⟨[], HI⟩
  case round =>
    obtain ⟨done, HV⟩ := hrel
    rcases HV.out.it.next Tryz.underlying3 0 with ⟨hall, hrun⟩ | ⟨x, u, w2, hu, hnd, hwf, hrun, hit, hg, hsz, hen, hlt⟩
    · have hp := lv_all HV.out hall
      have hS := SortOwn_any _ _ _ wr HV.out.own (lv_len HV.out hl')
      have HP := Lib.hid hp
      clear hall hp
      go_wp2_with fail
      refine hS.mono ?_
      rintro e w3 ⟨rfl, hg3, ho3⟩
      clear hS hrun
      rw [HP.out, show done.length = (keysL m).length by rw [← HP.out]; simp] at ho3
      have H3 := Lib.hid (And.intro hg3 ho3)
      clear hg3 ho3
      go_wp2
      go_ret
      have hbk := lv_row HV.out
      exact ⟨_, rfl, below_row HV.out.bl H3.out.1 hbk, owns_low H3.out.2 (by omega)⟩
    · have H2 := Lib.hid (LvInv.next HV.out hit hg hsz)
      have HL := Lib.hid hlt
      clear hu hnd hit hg hlt hsz
      obtain ⟨i0, hi0, hz0, hz1, hz2⟩ := info_parts info_int
      have hlen := lv_len HV.out hl'
      have HN2 := Lib.hid hlen
      have hw2 := H2.out.2.2.2
      clear hlen
      go_wp2_with (at_builtin; refine Hid.out ?_)
      refine Lib.hid ?_
      (refine wpList_append_keep _ rfl _ _ 58 rfl (w.heap.size + 1) 3 i0 (.int .i64 0) 1 8 Tryz.underlying58 hi0 hz0 hz1 hz2 rfl (by decide) _ _ _ rfl (H2.out.2.2.1.alloc _) ⟨w2.heap.size, 0, none⟩ 1 1 [.int .i64 x] rfl (by rfl) (World.news_of_block (cs := #[.int .i64 x]) (t := 3) (fr := (0, 0)) (heap_alloc_new w2 _)) (by simp [Value.oneCell']) (by have := HN2.out; unfold maxLen; omega) (by have := HN2.out; omega) (by simp; omega) ?_; intro v' w4 ho4 hg4 hk4)
      have hk5 : LvInv w w4 mb m (done ++ [x]) v' := LvInv.app H2.out.1 H2.out.2.1 H2.out.2.2.1 H2.out.2.2.2 HV.out.mbl ho4 hg4
      have HK5 := Lib.hid hk5
      have HL4 := Lib.hid (lv_left H2.out.2.2.1 H2.out.2.2.2 HV.out.mbl hg4)
      clear hk5 ho4 hg4 hk4
      go_wp2
      go_roundw
      case rel => exact ⟨done ++ [x], HK5⟩
      case measure => rw [HL4.out]; exact HL.out
set_option maxRecDepth 100000 in
theorem hLive_any {B : HB} {H : HM} {O0 O1 : Obj} {w : World} {S : Nat → Prop} (h : HeapSt B H O0 O1 w S) (hl : H.live.length ≤ 1000000) :
    Calls Tryz.prog 31 #[.pointer (some ⟨B.hb, 0, none⟩)] w fun e w' => ∃ v, e = .returned v ∧ Below w.heap.size w w' ∧ w'.ownsRow w.heap.size 3 1 v (keysL H.live).length ((keysL H.live).map (Value.int .i64)) := by
  have hK := iAll_any h.book hl
  have c4 := heap_cell h.blk 4
  simp at c4
  clear h
  go_enter Tryz.func31, Tryz.ntmps31
  go_wp2_with (go_at_call 85; refine hK.mono ?_; rintro e w' ⟨v, rfl, hb, ho⟩)
  go_ret
  exact ⟨v, rfl, hb, ho⟩
end Go.Proofs.YtcenagpkfimkbaaGreatDoor
namespace Go.Proofs.YtcenagpkfimkbaaGreatDoor
open Go Go.RowKit

def delE (H : HM) (r : Int) : Int := if livesB H r = false then 2 else if kidsL H.par r ≠ [] then 6 else if 0 < at0 H.cnt r then 7 else 0

set_option maxRecDepth 100000 in
set_option maxHeartbeats 2000000 in
theorem hDelBad_any {B : HB} {H : HM} {O0 O1 : Obj} {w : World} {S : Nat → Prop} (h : HeapSt B H O0 O1 w S) (hF : Fine H) (r : Int) (r0 : 0 ≤ r) (r1 : r ≤ 18446744073709551615) (hbad : delE H r ≠ 0) :
    Calls Tryz.prog 62 #[.pointer (some ⟨B.hb, 0, none⟩), .int .u64 r] w fun e w' => e = .returned (.int .i64 (delE H r)) ∧ Below w.heap.size w w' := by
  have hL := hlives_any h hF r r0 r1
  have HH := Lib.hid (And.intro h hF)
  cases hlv : livesB H r
  · have e1 : Hid (delE H r = 2) := Lib.hid (by rw [delE, if_pos hlv])
    rw [hlv] at hL
    obtain ⟨y, hy⟩ : ∃ y, IntKind.i64.wrap r = y := ⟨_, rfl⟩
    rw [hy] at hL
    clear h hF hbad hlv hy
    go_enter Tryz.func62, Tryz.ntmps62
    go_wp2_with fail
    refine hL.mono ?_
    rintro e w1 ⟨rfl, hb1⟩
    go_wp2
    go_ret
    exact ⟨by rw [e1.out]; rfl, hb1⟩
  · have hle := (livesB_le hlv).1
    have l1 := hF.l1
    rw [hlv, show IntKind.i64.wrap r = r by rw [IntKind.wrap_i64]; omega] at hL
    have e0 : delE H r = if kidsL H.par r ≠ [] then 6 else if 0 < at0 H.cnt r then 7 else 0 := by rw [delE, if_neg (by rw [hlv]; simp)]
    have hK := fun (w' : World) (hb : Below w.heap.size w w') => trKids_any (HH.out.1.later hb).tree r HH.out.2.pl
    have HK := Lib.hid hK
    have hC := fun (w' : World) (hb : Below w.heap.size w w') => taOf_any (HH.out.1.later hb).counts r (by omega) (by omega)
    have HC := Lib.hid hC
    by_cases hk : kidsL H.par r = []
    · have hcp : 0 < at0 H.cnt r := by
        rw [e0, if_neg (by simpa using hk)] at hbad
        by_cases hc : 0 < at0 H.cnt r
        · exact hc
        · rw [if_neg hc] at hbad; exact absurd rfl hbad
      have e1 : Hid (delE H r = 7) := Lib.hid (by rw [e0, if_neg (by simpa using hk), if_pos hcp])
      have y1 : decide (at0 H.cnt r > 0) = true := by simpa using hcp
      have HKE := Lib.hid hk
      clear h hF hbad hlv hK hC hk e0 l1
      go_enter Tryz.func62, Tryz.ntmps62
      go_wp2_with fail
      refine hL.mono ?_
      rintro e w1 ⟨rfl, hb1⟩
      have c5 := heap_cell (HH.out.1.later hb1).blk 5
      simp at c5
      have hk1 := HK.out w1 hb1
      have HB1 := Lib.hid hb1
      clear hL hb1
      go_wp2_with fail
      refine hk1.mono ?_
      rintro e w2 ⟨v, rfl, hb2, hv⟩
      have hb3 := HB1.out.trans (hb2.mono HB1.out.size)
      rw [HKE.out] at hv
      have c7 := heap_cell (HH.out.1.later hb3).blk 7
      simp at c7
      have hc1 := HC.out w2 hb3
      have HB3 := Lib.hid hb3
      rcases hv.2 with ⟨rfl, _⟩ | ⟨g, cap, cur, rfl, _⟩
      all_goals
        clear hk1 hb2 hb3 hv c5
        go_wp2_with fail
        refine hc1.mono ?_
        rintro e w3 ⟨rfl, rfl⟩
        go_wp2
        go_ret
        exact ⟨by rw [e1.out]; rfl, HB3.out⟩
    · have e1 : Hid (delE H r = 6) := Lib.hid (by rw [e0, if_pos hk])
      have hlen : 0 < (kidsL H.par r).length := List.length_pos_iff.2 hk
      clear h hF hbad hlv hK hC hk e0 l1
      go_enter Tryz.func62, Tryz.ntmps62
      go_wp2_with fail
      refine hL.mono ?_
      rintro e w1 ⟨rfl, hb1⟩
      have c5 := heap_cell (HH.out.1.later hb1).blk 5
      simp at c5
      have hk1 := HK.out w1 hb1
      have HB1 := Lib.hid hb1
      clear hL hb1
      go_wp2_with fail
      refine hk1.mono ?_
      rintro e w2 ⟨v, rfl, hb2, hv⟩
      have hb3 := HB1.out.trans (hb2.mono HB1.out.size)
      have HB3 := Lib.hid hb3
      obtain ⟨n, hn⟩ : ∃ n, (kidsL H.par r).length = n := ⟨_, rfl⟩
      rw [hn] at hv hlen
      rcases hv.2 with ⟨rfl, hz⟩ | ⟨g, cap, cur, rfl, _⟩
      · omega
      · have y1 : decide ((n : Int) > 0) = true := by simp; omega
        clear hk1 hb2 hb3 hv c5 hn
        go_wp2
        go_ret
        exact ⟨by rw [e1.out]; rfl, HB3.out⟩
end Go.Proofs.YtcenagpkfimkbaaGreatDoor
namespace Go.Proofs.YtcenagpkfimkbaaGreatDoor
open Go Go.RowKit

set_option maxRecDepth 100000 in
theorem iTake_any {bb mb : Nat} {l : IM Unit} {last most : Int} {w : World} (h : BookAt w bb mb l last most) (x : Int) (h0 : -9223372036854775808 ≤ x) (h1 : x ≤ 9223372036854775807) (hx : (lk l x).isSome = true) :
    Calls Tryz.prog 115 #[.pointer (some ⟨bb, 0, none⟩), .int .i64 x] w fun e w' => e = .returned (.int .i64 0) ∧ Moved (fun q => q = mb) w w' ∧ BookAt w' bb mb (mdel l x) last most := by
  have hL := iLives_any h x h0 h1
  rw [hx] at hL
  have c0 := heap_cell h.blk 0
  simp at c0
  have hd := fun (w1 : World) (hb : Below w.heap.size w w1) => (h.later hb).map.drop Tryz.underlying3 Tryz.underlying187 x (wf_i64 h0 h1) 0
  have HH := Lib.hid (And.intro h hd)
  clear h hx hd
  go_enter Tryz.func115, Tryz.ntmps115
  go_wp2_with fail
  refine hL.mono ?_
  rintro e w1 ⟨rfl, hb⟩
  have c1 := (hb.cell (p := ⟨bb, 0, none⟩) (cell_lt c0)).trans c0
  obtain ⟨w3, hr3, hm3, ht3⟩ := HH.out.2 w1 hb
  have H3 := Lib.hid (And.intro hm3 (And.intro ht3 hb))
  clear hL hb hm3 ht3 c0
  go_wp2
  go_ret
  obtain ⟨hm3, ht3, hb⟩ := H3.out
  refine ⟨rfl, (Moved.of_below hb _).trans (Moved.turned ht3) (fun q e => .inl e), ?_⟩
  have hB := HH.out.1.later hb
  exact ⟨(Moved.turned ht3).heap hB.blk hB.ne, by rw [← mdel_mapV] at *; exact hm3⟩

set_option maxRecDepth 100000 in
theorem trRemove_any {tb mb : Nat} {m : IM Int} {w : World} (h : TreeAt w tb mb m) (x : Int) (h0 : -9223372036854775808 ≤ x) (h1 : x ≤ 9223372036854775807) (hl : m.length ≤ 1000000) (hx : (lk m x).isSome = true) (hk : kidsL m x = []) :
    Calls Tryz.prog 114 #[.pointer (some ⟨tb, 0, none⟩), .int .i64 x] w fun e w' => e = .returned (.int .i64 0) ∧ Moved (fun q => q = mb) w w' ∧ TreeAt w' tb mb (mdel m x) := by
  have hH := trHas_any h x h0 h1
  rw [hx] at hH
  have hK := trKids_any h x hl
  rw [hk] at hK
  have c0 := heap_cell h.blk 0
  simp at c0
  have hd := fun (w1 : World) (hb : Below w.heap.size w w1) => (h.later hb).map.drop Tryz.underlying3 Tryz.underlying61 x (wf_i64 h0 h1) 0
  have HH := Lib.hid (And.intro h hd)
  clear h hx hd hk
  go_enter Tryz.func114, Tryz.ntmps114
  go_wp2_with fail
  refine hH.mono ?_
  rintro e w1 ⟨rfl, rfl⟩
  clear hH
  go_wp2_with fail
  refine hK.mono ?_
  rintro e w1 ⟨v, rfl, hb, hown⟩
  obtain ⟨a, c, rfl, _⟩ := owns_slice hown
  have c1 := (hb.cell (p := ⟨tb, 0, none⟩) (cell_lt c0)).trans c0
  obtain ⟨w3, hr3, hm3, ht3⟩ := HH.out.2 w1 hb
  have H3 := Lib.hid (And.intro hm3 (And.intro ht3 hb))
  clear hK hb hm3 ht3 c0 hown
  go_wp2
  go_ret
  obtain ⟨hm3, ht3, hb⟩ := H3.out
  exact ⟨rfl, (Moved.of_below hb _).trans (Moved.turned ht3) (fun q e => .inl e), (HH.out.1.later hb).del hm3 ht3⟩
end Go.Proofs.YtcenagpkfimkbaaGreatDoor
