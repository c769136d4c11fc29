/-
  Contracts of functions of the program, laid together.
-/
import Derived.Test.YtcenagpkfimkbaaGreatDoorTopSlotsM22
import Derived.Test.YtcenagpkfimkbaaGreatDoorTopSlotsM23
import Derived.Test.YtcenagpkfimkbaaGreatDoorTopSlotsM27
import Derived.Test.YtcenagpkfimkbaaGreatDoorTopSlotsM28
import Derived.Test.YtcenagpkfimkbaaGreatDoorTopSlotsM29
import Derived.Test.YtcenagpkfimkbaaGreatDoorTopSlotsM30
import Derived.Test.YtcenagpkfimkbaaGreatDoorTopSlotsM31
namespace Go.Proofs.YtcenagpkfimkbaaGreatDoor
open Go Go.RowKit Go.Shelf

attribute [local go_sem] Oper.semAt_some
@[local go_sem] theorem wide_fnU (f : FuncId) : Fence.wide.fn f = True := rfl
@[local go_sem] theorem wide_fnU2 (l : Nat) (f : FuncId) : (Fence.wide.inRound l).fn f = True := rfl

def outStep (H : HM) (id a : Int) (m : IM Int) (x : Int) : IM Int :=
  if cntB ((onK H.ms H.ds a).getD x.toNat 0) id (tgt H ((onV H.ms H.ds a).getD x.toNat 0)) = true then taL m (tgt H ((onV H.ms H.ds a).getD x.toNat 0)) 1 else m
def outObj (H : HM) (id a : Int) (m : IM Int) : IM Int := (ptrIdx (onK H.ms H.ds a) (onK H.ms H.ds a).length).foldl (outStep H id a) m
def outAll (H : HM) (id : Int) (ts : List (Int × Int)) : IM Int := ts.foldl (fun m p => outObj H id (p.1 + 1) m) []
theorem outAll_snoc (H : HM) (id : Int) (ts : List (Int × Int)) (p : Int × Int) : outAll H id (ts ++ [p]) = outObj H id (p.1 + 1) (outAll H id ts) := by simp [outAll]

def OutOk (H : HM) (id : Int) (ts : List (Int × Int)) : Prop := ∀ (j : Nat) (p : Int × Int) (i : Nat), ts[j]? = some p → ∀ m, m = ((ptrIdx (onK H.ms H.ds (p.1 + 1)) (onK H.ms H.ds (p.1 + 1)).length).take i).foldl (outStep H id (p.1 + 1)) (outAll H id (ts.take j)) → Told m ∧ m.length ≤ 100000
def OutI (H : HM) (id : Int) (hb b2 b3 b5 tb tm : Nat) (pre : List (Int × Int)) : HP := fun W S =>
  W.heap[b2]? = some (.cells #[.pointer (some ⟨hb, 0, none⟩)] 59 (0, 0)) ∧ W.heap[b3]? = some (.cells #[.int .i64 id] 3 (0, 0)) ∧ W.heap[b5]? = some (.cells #[.pointer (some ⟨tb, 0, none⟩)] 113 (0, 0)) ∧ TallyAt W tb tm (outAll H id pre) ∧ ∀ k, S k ↔ k = b2 ∨ k = b3 ∨ k = b5 ∨ k = tb ∨ k = tm
theorem OutI.ok (H : HM) (id : Int) (hb b2 b3 b5 tb tm : Nat) (pre : List (Int × Int)) : (OutI H id hb b2 b3 b5 tb tm pre).Ok := by
  constructor
  · rintro w w' S T ⟨h1, h2, h3, h4, hs⟩ hm hd
    exact ⟨hm.heap h1 (hd _ ((hs _).2 (by simp))), hm.heap h2 (hd _ ((hs _).2 (by simp))), hm.heap h3 (hd _ ((hs _).2 (by simp))), h4.moved hm (hd _ ((hs _).2 (by simp))) (hd _ ((hs _).2 (by simp))), hs⟩
  · rintro w S ⟨h1, h2, h3, h4, hs⟩ k hk
    rcases (hs k).1 hk with rfl | rfl | rfl | rfl | rfl
    · exact heap_lt h1
    · exact heap_lt h2
    · exact heap_lt h3
    · exact heap_lt h4.blk
    · exact h4.map.lt

structure OutL (W6 : World) (tb tm : Nat) (m : IM Int) (wr : World) : Prop where
  t : TallyAt wr tb tm m
  mv : Moved (fun k => k = tm) W6 wr
set_option maxRecDepth 100000 in
set_option maxHeartbeats 4000000 in
theorem hout_any {B : HB} {H : HM} {O0 O1 : Obj} {w : World} {SH : Nat → Prop} (h : HeapSt B H O0 O1 w SH) (hF : Fine H) (hk : ItOk H) {id : Int} {A : AR} (hA : lk H.ar id = some A) (hkl : ∀ a, (onK H.ms H.ds a).length ≤ 4000) (hO : OutOk H id A.ts) (hOl : (outAll H id A.ts).length ≤ 100000) (hOk : ∀ p ∈ outAll H id A.ts, -9223372036854775808 ≤ p.1 ∧ p.1 ≤ 9223372036854775807) :
    Calls Tryz.prog 108 #[.pointer (some ⟨B.hb, 0, none⟩), .int .i64 id] w (RetRuns (outAll H id A.ts) w) := by
  obtain ⟨i1, i2, _, _⟩ := hk.ar id A hA
  obtain ⟨X, hX⟩ : ∃ X, (w.alloc (.cells #[.pointer (some ⟨B.hb, 0, none⟩)] 59)).alloc (.cells #[.int .i64 id] 3) = X := ⟨_, rfl⟩
  have hbX : Below w.heap.size w X := by rw [← hX]; exact ((Below.refl _ _).alloc (Nat.le_refl _) _).alloc (by simp) _
  have o2 : X.heap[w.heap.size]? = some (.cells #[.pointer (some ⟨B.hb, 0, none⟩)] 59 (0, 0)) := by rw [← hX]; exact heap_alloc_lt (heap_alloc_eq _ _) _
  have o3 : X.heap[w.heap.size + 1]? = some (.cells #[.int .i64 id] 3 (0, 0)) := by rw [← hX]; simpa using heap_alloc_eq (w.alloc (.cells #[.pointer (some ⟨B.hb, 0, none⟩)] 59)) (.cells #[.int .i64 id] 3)
  have hN := taNew_any X
  refine (callsIn_wide (n := 3)).1 ?_
  refine callsIn_of_wp_marks Tryz.func108 rfl trivial ?_ rfl
  simp only [Tryz.ntmps108, List.size_toArray, List.length_cons, List.length_nil, Nat.reduceAdd, Nat.reduceSub, Array.replicate_succ, Array.replicate_zero, List.push_toArray, List.append_toArray, List.nil_append, List.cons_append]
  have HH := Lib.hid (And.intro h (And.intro hF (And.intro hk (And.intro hA (And.intro hkl (And.intro hO (And.intro hOl hOk)))))))
  have HX := Lib.hid (And.intro hbX (And.intro o2 o3))
  clear h hF hk hA hkl hO hOl hOk hbX o2 o3
  gi_wp2_with fail
  try rw [hX]
  gi_wp2_with fail
  refine (callsIn_wide.2 hN).mono ?_
  rintro e w1 ⟨rfl, hb1, hT1⟩
  obtain ⟨Y, hY⟩ : ∃ Y, w1.alloc (.cells #[.pointer (some ⟨X.heap.size + 1, 0, none⟩)] 113) = Y := ⟨_, rfl⟩
  have hbY : Below w1.heap.size w1 Y := by rw [← hY]; exact (Below.refl _ _).alloc (Nat.le_refl _) _
  have o5 : Y.heap[w1.heap.size]? = some (.cells #[.pointer (some ⟨X.heap.size + 1, 0, none⟩)] 113 (0, 0)) := by rw [← hY]; exact heap_alloc_eq _ _
  have hbXY := hb1.trans (hbY.mono hb1.size)
  have y2 := heap_below hbXY HX.out.2.1 (heap_lt HX.out.2.1)
  have y3 := heap_below hbXY HX.out.2.2 (heap_lt HX.out.2.2)
  have hTY := hT1.later hbY
  have b2 := heap_cell y2 0
  have b3 := heap_cell y3 0
  simp at b2 b3
  have hOb := hobjects_any B.hb id Y
  obtain ⟨W4, hW4⟩ : ∃ W4, (Y.alloc (.cells #[.pointer (some ⟨B.hb, 0, none⟩)] 59)).alloc (.cells #[.int .i64 id] 3) = W4 := ⟨_, rfl⟩
  have hb4 : Below Y.heap.size Y W4 := by rw [← hW4]; exact ((Below.refl _ _).alloc (Nat.le_refl _) _).alloc (by simp) _
  have p4 : W4.heap[Y.heap.size]? = some (.cells #[.pointer (some ⟨B.hb, 0, none⟩)] 59 (0, 0)) := by rw [← hW4]; exact heap_alloc_lt (heap_alloc_eq _ _) _
  have p5 : W4.heap[Y.heap.size + 1]? = some (.cells #[.int .i64 id] 3 (0, 0)) := by rw [← hW4]; simpa using heap_alloc_eq (Y.alloc (.cells #[.pointer (some ⟨B.hb, 0, none⟩)] 59)) (.cells #[.int .i64 id] 3)
  rw [hW4] at hOb
  have HY := Lib.hid (And.intro hb1 (And.intro hbXY (And.intro o5 (And.intro y2 (And.intro y3 (And.intro hTY (And.intro hb4 (And.intro p4 p5))))))))
  have s1 : w.heap.size + 1 < X.heap.size := heap_lt HX.out.2.2
  have s2 : X.heap.size + 1 < w1.heap.size := heap_lt hT1.blk
  have s3 : w1.heap.size < Y.heap.size := heap_lt o5
  have s4 : Y.heap.size + 1 < W4.heap.size := heap_lt p5
  clear hN hb1 hT1 hbY o5 hbXY y2 y3 hTY hb4 p4 p5 hW4
  gi_wp2_with fail
  try rw [hY]
  gi_wp2_with fail
  refine (callsIn_wide.2 hOb).mono ?_
  rintro e W4' ⟨rfl, rfl⟩
  clear hOb b2 b3
  gi_wp2
  refine wpIn_range_hp2 (by omega) (gf := 86) (lb := #[.pointer (some ⟨Y.heap.size, 0, none⟩), .pointer (some ⟨Y.heap.size + 1, 0, none⟩)]) rfl (enters_of Tryz.func86 (by kernel_rfl) rfl)
    (objs_hands B H O0 O1 HH.out.2.2.1 HH.out.2.2.2.1 Y.heap.size (Y.heap.size + 1)) (OutI H id B.hb w.heap.size (w.heap.size + 1) w1.heap.size (X.heap.size + 1) X.heap.size) (fun _ _ => False) (OutI.ok _ _ _ _ _ _ _ _) noHP_ok (fun k => k = w.heap.size ∨ k = w.heap.size + 1 ∨ k = w1.heap.size ∨ k = X.heap.size + 1 ∨ k = X.heap.size)
    ⟨heap_below HY.out.2.2.2.2.2.2.1 HY.out.2.2.2.1 (by omega), heap_below HY.out.2.2.2.2.2.2.1 HY.out.2.2.2.2.1 (by omega), heap_below HY.out.2.2.2.2.2.2.1 HY.out.2.2.1 (by omega), HY.out.2.2.2.2.2.1.later HY.out.2.2.2.2.2.2.1, fun k => Iff.rfl⟩ (fun x args W S hE => by obtain ⟨_, y1, y2, c1, c2, hE, _⟩ := hE; rw [hE]; rfl) ?pre ?round ?done ?stop
  case pre =>
    intro Wn Sn hb hs
    have hb04 : Below w.heap.size w W4' := HX.out.1.trans ((HY.out.2.1.trans (HY.out.2.2.2.2.2.2.1.mono (by omega))).mono (by omega))
    have hlt := (HeapSt.ok B H O0 O1).lt HH.out.1
    refine ⟨heap_below hb HY.out.2.2.2.2.2.2.2.1 (by omega), heap_below hb HY.out.2.2.2.2.2.2.2.2 (by omega), fun e => by have := hs _ e; omega, fun e => by have := hs _ e; omega, SH, (HH.out.1.later hb04).later hb, fun k hk e => by have := hs _ e; have := hlt k hk; omega⟩
  case round =>
    rintro l' D' pre p args Wn Sn hpart hE hI hltn hl' hnl hnel
    obtain ⟨⟨SH', hHn, hdis⟩, y1, y2, d1, d2, rfl, hr1, hr2, hn1, hn2⟩ := hE
    have hpm := outAll_snoc H id pre p
    have hOO : ∀ i m, m = ((ptrIdx (onK H.ms H.ds (p.1 + 1)) (onK H.ms H.ds (p.1 + 1)).length).take i).foldl (outStep H id (p.1 + 1)) (outAll H id pre) → Told m ∧ m.length ≤ 100000 := by
      intro i m hm
      obtain ⟨more, hmore⟩ := hpart
      refine HH.out.2.2.2.2.2.1 pre.length p i ?_ m ?_
      · rw [← hmore]; simp
      · rw [hm, ← hmore]; simp
    obtain ⟨av, hav⟩ : ∃ av, p.1 + 1 = av := ⟨_, rfl⟩
    rw [hav] at hr1 hr2 hn1 hn2 hpm hOO ⊢
    gi_wp2
    refine ⟨(Below.refl _ _).alloc (Nat.le_refl _) _, ?_⟩
    intro ob hm hIB
    obtain ⟨WA, hWA⟩ : ∃ WA, Wn.alloc (.cells #[.int .i64 (onI H.ms H.ds av av), .int .i64 id, .bool (onA H.ms H.ds av), .int .i64 (onI H.ms H.ds av (gK (onX H.ms av))), .int .i64 (onI H.ms H.ds av (gT (onX H.ms av))), .int .i64 (onI H.ms H.ds av (gN (onX H.ms av))), .slice y1 (onK H.ms H.ds av).length d1, .slice y2 (onV H.ms H.ds av).length d2] 104) = WA := ⟨_, rfl⟩
    rw [hWA] at hm hIB ⊢
    obtain ⟨WB, hWB⟩ : ∃ WB, WA.putObj l' ob = WB := ⟨_, rfl⟩
    rw [hWB] at hm hIB ⊢
    have hbA : Below Wn.heap.size Wn WA := by rw [← hWA]; exact (Below.refl _ _).alloc (Nat.le_refl _) _
    have hmN : Moved (fun k => k = l') Wn WB := (Moved.of_below hbA _).trans hm (fun q e => .inl e)
    have oB : WB.heap[Wn.heap.size]? = some (.cells #[.int .i64 (onI H.ms H.ds av av), .int .i64 id, .bool (onA H.ms H.ds av), .int .i64 (onI H.ms H.ds av (gK (onX H.ms av))), .int .i64 (onI H.ms H.ds av (gT (onX H.ms av))), .int .i64 (onI H.ms H.ds av (gN (onX H.ms av))), .slice y1 (onK H.ms H.ds av).length d1, .slice y2 (onV H.ms H.ds av).length d2] 104 (0, 0)) := hm.heap (by rw [← hWA]; exact heap_alloc_eq _ _) hnel
    have hHB := (HeapSt.ok B H O0 O1).moved hHn hmN (fun k hk e => hdis k hk (.inr (.inl e)))
    have hR1 := reads_kept hr1 hmN (hn1.imp_right (fun h q e e2 => (h q e).1 (.inr (.inl e2))))
    have hR2 := reads_kept hr2 hmN (hn2.imp_right (fun h q e e2 => (h q e).1 (.inr (.inl e2))))
    obtain ⟨g1, g2, g3, g4, g5⟩ := hIB
    have z0 := heap_cell oB 0
    have z1 := heap_cell oB 1
    have z2 := heap_cell oB 2
    have z3 := heap_cell oB 3
    have z4 := heap_cell oB 4
    have z5 := heap_cell oB 5
    have z6 := heap_cell oB 6
    have z7 := heap_cell oB 7
    simp at z0 z1 z2 z3 z4 z5 z6 z7
    have hkl := HH.out.2.2.2.2.1 av
    have hPt := Pointers_any (onI H.ms H.ds av av) id (onI H.ms H.ds av (gK (onX H.ms av))) (onI H.ms H.ds av (gT (onX H.ms av))) (onI H.ms H.ds av (gN (onX H.ms av))) (onA H.ms H.ds av) y1 (onK H.ms H.ds av) d1 y2 (onV H.ms H.ds av).length d2 WB hHB.tabs.1 hR1 (by omega)
    have HB1 := Lib.hid (And.intro hHB (And.intro hR1 (And.intro hR2 (And.intro oB (And.intro hmN (And.intro hdis (And.intro hn1 (And.intro hn2 (And.intro hpm hOO)))))))))
    have HI := Lib.hid (And.intro g1 (And.intro g2 (And.intro g3 (And.intro g4 g5))))
    clear hHB hR1 hR2 oB hm hmN hdis hn1 hn2 hpm hOO g1 g2 g3 g4 g5 hHn hr1 hr2 hI hbA hpart hWA hWB
    gi_wp2_with fail
    refine (callsIn_wide.2 hPt).mono ?_
    rintro e W6 ⟨v6, rfl, hb6, ho6⟩
    obtain ⟨a6, c6, rfl, hrd6, hab6, _⟩ := owns_reads ho6
    have hpl := ptrIdx_length (onK H.ms H.ds av) (onK H.ms H.ds av).length
    obtain ⟨N, hN⟩ : ∃ N, (ptrIdx (onK H.ms H.ds av) (onK H.ms H.ds av).length).length = N := ⟨_, rfl⟩
    have H6 := Lib.hid (And.intro hb6 (And.intro hrd6 (And.intro hab6 hN)))
    rw [hN] at hpl ⊢
    clear hPt hb6 ho6 hrd6 hab6 hN z0 z1 z2 z3 z4 z5 z6 z7
    gi_wp2
    gi_loopw [18] (fun i wr => ∃ j : Nat, j ≤ N ∧ i = .int .i64 j ∧ Hid (OutL W6 (X.heap.size + 1) X.heap.size (((ptrIdx (onK H.ms H.ds av) (onK H.ms H.ds av).length).take j).foldl (outStep H id av) (outAll H id pre)) wr)) (fun i _ => N - (intOf i).toNat)
    case atStart => exact ⟨0, Nat.zero_le _, rfl, Lib.hid ⟨HI.out.2.2.2.1.later H6.out.1, Moved.refl _ _⟩⟩
    case round =>
      obtain ⟨j, hj, rfl, HV⟩ := hrel
      by_cases hlt : j < N
      · obtain ⟨rb, ro, rfl, hrc⟩ := H6.out.2.1.at_ j (by rw [H6.out.2.2.2]; exact hlt)
        obtain ⟨x, hx⟩ : ∃ x, (ptrIdx (onK H.ms H.ds av) (onK H.ms H.ds av).length)[j]? = some x := ⟨_, List.getElem?_eq_getElem (by rw [H6.out.2.2.2]; exact hlt)⟩
        rw [hx] at hrc
        simp only [Option.getD_some] at hrc
        obtain ⟨i, rfl, hi, hip⟩ := ptrIdx_mem (List.mem_of_getElem? hx)
        have hvl : i < (onV H.ms H.ds av).length := by rw [onV_length]; exact hi
        have hB6 := heap_below H6.out.1 HB1.out.2.2.2.1 (heap_lt HB1.out.2.2.2.1)
        have hR1 := HB1.out.2.1.below H6.out.1
        have hR2 := HB1.out.2.2.1.below H6.out.1
        obtain ⟨kb, ko, rfl, hkc⟩ := hR1.at_ i hi
        obtain ⟨vb, vo, rfl, hvc⟩ := hR2.at_ i hvl
        have htm : X.heap.size < Wn.heap.size := hltn _ ((HI.out.2.2.2.2 _).2 (by simp))
        have hWB := HB1.out.2.2.2.2.1.size
        have hSn : Sn X.heap.size := (HI.out.2.2.2.2 _).2 (by simp)
        have hkne : ¬ kb = X.heap.size := by
          rcases HB1.out.2.2.2.2.2.2.1 with h | h
          · rw [h] at hi; simp at hi
          · intro e; exact (h _ rfl).1 (.inl (by rw [e]; exact hSn))
        have hvne : ¬ vb = X.heap.size := by
          rcases HB1.out.2.2.2.2.2.2.2.1 with h | h
          · rw [h] at hvl; simp at hvl
          · intro e; exact (h _ rfl).1 (.inl (by rw [e]; exact hSn))
        have hrne : ¬ rb = X.heap.size := by have := (H6.out.2.2.1 _ rfl).1; simp at this; omega
        have mv := HV.out.mv
        have q0 := mv.cell hrc hrne
        have q1 := mv.cell hkc hkne
        have q2 := mv.cell hvc hvne
        have hOb := mv.heap hB6 (by omega)
        have hHr := (HeapSt.ok B H O0 O1).moved (HB1.out.1.later H6.out.1) mv (fun k hk e => HB1.out.2.2.2.2.2.1 k hk (.inl (by rw [e]; exact hSn)))
        have e2 := mv.heap (heap_below H6.out.1 HI.out.1 (heap_lt HI.out.1)) (by omega)
        have e3 := mv.heap (heap_below H6.out.1 HI.out.2.1 (heap_lt HI.out.2.1)) (by omega)
        have e5 := mv.heap (heap_below H6.out.1 HI.out.2.2.1 (heap_lt HI.out.2.2.1)) (by omega)
        have z6 := heap_cell hOb 6
        have z7 := heap_cell hOb 7
        have b2 := heap_cell e2 0
        have b3 := heap_cell e3 0
        have b5 := heap_cell e5 0
        simp at z6 z7 b2 b3 b5
        obtain ⟨vi, hvi⟩ : ∃ vi, (onV H.ms H.ds av)[i]?.getD 0 = vi := ⟨_, rfl⟩
        obtain ⟨ki, hki⟩ : ∃ ki, (onK H.ms H.ds av)[i]?.getD 0 = ki := ⟨_, rfl⟩
        rw [hvi] at q2
        rw [hki] at q1
        have hvr : 0 ≤ vi ∧ vi < 18446744073709551616 := by
          refine HH.out.2.2.1.ms vi (onV_mem (a := av) (ds := H.ds) ?_)
          rw [← hvi, List.getElem?_eq_getElem hvl]
          exact List.getElem_mem hvl
        have hbd : ∀ n : Nat, Below wr.heap.size wr (wr.drewN n) := fun n => ⟨rfl, rfl, rfl, by simp, fun _ _ => rfl⟩
        obtain ⟨tv, htv⟩ : ∃ tv, tgt H vi = tv := ⟨_, rfl⟩
        have hT : ∀ (m n : Nat), CallsIn Fence.wide m Tryz.prog 122 #[.pointer (some ⟨B.hb, 0, none⟩), .int .u64 vi] (wr.drewN n) (fun e w' => e = .returned (.int .i64 tv) ∧ w' = wr.drewN n) := fun m n => callsIn_wide.2 ((htarget_any (hHr.later (hbd n)) vi hvr.1 (by omega)).mono (fun _ _ ⟨h1, h2⟩ => ⟨by rw [h1, htv], h2.symm⟩))
        obtain ⟨cb, hcb⟩ : ∃ cb, cntB ki id tv = cb := ⟨_, rfl⟩
        have hC : ∀ (m n : Nat) (W : World), CallsIn Fence.wide m Tryz.prog 154 #[.int .i64 ki, .int .i64 id, .int .i64 tv] (W.drewN n) (fun e w' => e = .returned (.bool cb) ∧ w' = W.drewN n) := fun m n W => callsIn_wide.2 ((aCounts_any ki id tv (W.drewN n)).mono (fun _ _ ⟨h1, h2⟩ => ⟨by rw [h1, hcb], h2.symm⟩))
        have hms := HB1.out.2.2.2.2.2.2.2.2.2 j _ rfl
        have htr := tgt_le HH.out.2.1 vi
        rw [htv] at htr
        have hstep : ((ptrIdx (onK H.ms H.ds av) (onK H.ms H.ds av).length).take (j + 1)).foldl (outStep H id av) (outAll H id pre) = outStep H id av (((ptrIdx (onK H.ms H.ds av) (onK H.ms H.ds av).length).take j).foldl (outStep H id av) (outAll H id pre)) (i : Int) := by
          rw [List.take_add_one, hx, List.foldl_append]; rfl
        have hst2 : ∀ m, outStep H id av m (i : Int) = if cntB ki id tv = true then taL m tv 1 else m := fun m => by
          unfold outStep
          simp only [Int.toNat_natCast, List.getD_eq_getElem?_getD, hki, hvi, htv]
        obtain ⟨mj, hmj⟩ : ∃ mj, ((ptrIdx (onK H.ms H.ds av) (onK H.ms H.ds av).length).take j).foldl (outStep H id av) (outAll H id pre) = mj := ⟨_, rfl⟩
        rw [hmj] at hms hstep HV
        rw [hst2, hcb] at hstep
        have HM := Lib.hid (And.intro hms (And.intro hstep hHr))
        have HTC := Lib.hid (And.intro hT hC)
        have hiv : (0 : Int) ≤ (i : Int) := by omega
        have hik : (i : Int) < ((onK H.ms H.ds av).length : Int) := by omega
        have hil : (i : Int) < ((onV H.ms H.ds av).length : Int) := by omega
        clear hrc hx hip hB6 hR1 hR2 hkc hvc hWB hkne hvne hrne mv hOb hHr e2 e3 e5 hvi hki hvr hbd htv hT hC hms hstep hst2 hmj hcb
        gi_wp2
        refine wpIn_region_quiet_lit_r (by rfl) (by kernel_rfl) (by kernel_rfl) ?_
        repeat (gi_big_quiet_step ((gi_at_call 122; refine CallsIn.quiet_of_same (HTC.out.1 _ _))))
        refine wpQuietIn_nil ?_
        intro _ hw'
        obtain ⟨nq, hw''⟩ := hw'
        subst hw''
        obtain ⟨Wq, hWq⟩ : ∃ Wq, wr.drewN nq = Wq := ⟨_, rfl⟩
        rw [hWq]
        have z6 : Wq.cell? ⟨Wn.heap.size, 6, none⟩ = some (.slice (some ⟨kb, ko, none⟩) (onK H.ms H.ds av).length d1) := by rw [← hWq]; exact z6
        have q1 : Wq.cell? ⟨kb, ko + i, none⟩ = some (.int .i64 ki) := by rw [← hWq]; exact q1
        have b3 : Wq.cell? ⟨w.heap.size + 1, 0, none⟩ = some (.int .i64 id) := by rw [← hWq]; exact b3
        have b5 : Wq.cell? ⟨w1.heap.size, 0, none⟩ = some (.pointer (some ⟨X.heap.size + 1, 0, none⟩)) := by rw [← hWq]; exact b5
        gi_wp2
        refine wpIn_region_quiet_lit_r (by rfl) (by kernel_rfl) (by kernel_rfl) ?_
        repeat (gi_big_quiet_step ((gi_at_call 154; refine CallsIn.quiet_of_same (HTC.out.2 _ _ _))))
        refine wpQuietIn_nil ?_
        intro _ hw'
        obtain ⟨nq, hw''⟩ := hw'
        subst hw''
        have hbq : Below wr.heap.size wr (Wq.drewN nq) := by rw [← hWq]; exact ⟨rfl, rfl, rfl, by simp, fun _ _ => rfl⟩
        have hTq := HV.out.t.later hbq
        have hmq := HV.out.mv.trans (Moved.of_below hbq (fun k => k = X.heap.size)) (fun q e => .inl e)
        cases cb
        · have HN : Hid (OutL W6 (X.heap.size + 1) X.heap.size (((ptrIdx (onK H.ms H.ds av) (onK H.ms H.ds av).length).take (j + 1)).foldl (outStep H id av) (outAll H id pre)) (Wq.drewN nq)) := Lib.hid (by
            rw [HM.out.2.1]
            exact ⟨hTq, hmq⟩)
          clear hbq hTq hmq hWq
          gi_wp2
          go_roundw
          case rel => exact ⟨j + 1, by omega, by go_num, HN⟩
          case measure => simp [intOf]; omega
        · have hAd := taAdd_any hTq HM.out.1.1 tv 1 (by omega) (by omega) (by omega) (by omega) (by have := HM.out.1.2; omega)
          have HMQ := Lib.hid hmq
          clear hbq hTq hmq hWq
          gi_wp2_with fail
          refine (callsIn_wide.2 hAd).mono ?_
          rintro e W9 ⟨rfl, hm9, ht9⟩
          have HN : Hid (OutL W6 (X.heap.size + 1) X.heap.size (((ptrIdx (onK H.ms H.ds av) (onK H.ms H.ds av).length).take (j + 1)).foldl (outStep H id av) (outAll H id pre)) W9) := Lib.hid (by
            rw [HM.out.2.1]
            exact ⟨ht9, HMQ.out.trans hm9 (fun q e => .inl e)⟩)
          clear hAd hm9 ht9
          gi_wp2
          go_roundw
          case rel => exact ⟨j + 1, by omega, by go_num, HN⟩
          case measure => simp [intOf]; omega
      · obtain rfl : j = N := by omega
        have hmj : ((ptrIdx (onK H.ms H.ds av) (onK H.ms H.ds av).length).take j) = ptrIdx (onK H.ms H.ds av) (onK H.ms H.ds av).length := by rw [← H6.out.2.2.2]; exact List.take_length
        rw [hmj] at HV
        have mv := HV.out.mv
        have htm : X.heap.size < Wn.heap.size := hltn _ ((HI.out.2.2.2.2 _).2 (by simp))
        have hSn : Sn X.heap.size := (HI.out.2.2.2.2 _).2 (by simp)
        have HF : Hid (BodyEnd (fun k => Sn k ∨ Wn.heap.size ≤ k) (OutI H id B.hb w.heap.size (w.heap.size + 1) w1.heap.size (X.heap.size + 1) X.heap.size (pre ++ [p])) (fun _ _ => False) WB .normal { tmps := #[], defers := [] } wr) := by
          refine Lib.hid ⟨Sn, ⟨(Moved.of_below H6.out.1 _).trans mv (fun q e => .inl (.inl (by rw [e]; exact hSn))), fun k hk => .inl (.inl hk)⟩, mv.heap (heap_below H6.out.1 HI.out.1 (heap_lt HI.out.1)) (by omega), mv.heap (heap_below H6.out.1 HI.out.2.1 (heap_lt HI.out.2.1)) (by omega), mv.heap (heap_below H6.out.1 HI.out.2.2.1 (heap_lt HI.out.2.2.1)) (by omega), ?_, HI.out.2.2.2.2⟩
          rw [HB1.out.2.2.2.2.2.2.2.2.1]
          exact HV.out.t
        clear hmj mv
        gi_wp2
        exact HF.out
  case done =>
    rintro D xs W5 S5 hD rfl ⟨g1, g2, g3, g4, g5⟩ hg hnD hK
    have hAl := taAll_any g4 HH.out.2.2.2.2.2.2.1 HH.out.2.2.2.2.2.2.2
    have b5 := heap_cell g3 0
    simp at b5
    have hb04 : Below w.heap.size w W4' := HX.out.1.trans ((HY.out.2.1.trans (HY.out.2.2.2.2.2.2.1.mono (by omega))).mono (by omega))
    have hb05 : Below w.heap.size w W5 := Moved.below hb04 hg.m (by omega) (fun q e => by omega)
    have HD := Lib.hid (And.intro hb05 (And.intro hK hD))
    clear g1 g2 g3 g4 g5 hg hnD hK hb04 hb05
    gi_wp2_with fail
    refine (callsIn_wide.2 hAl).mono ?_
    rintro e W7 ⟨v7, rfl, hb7, ho7, hn7⟩
    have hlt7 := heap_lt HD.out.2.1
    have hK7 := heap_below hb7 HD.out.2.1 hlt7
    have hmv : Moved (fun k => k = D) W7 (W7.putObj D (.deferred none)) := .of_grown (grownBy_putObj' W7 D (.deferred none)) (fun k e => by cases e; rfl)
    have hw4 : w.heap.size ≤ W4'.heap.size := by omega
    have hbf : Below w.heap.size w (W7.putObj D (.deferred none)) := Moved.below (HD.out.1.trans (hb7.mono HD.out.1.size)) hmv (by have := HD.out.1.size; have := hb7.size; omega) (fun q e => by have := HD.out.2.2; omega)
    have hof : OwnRuns (W7.putObj D (.deferred none)) v7 (outAll H id A.ts) := ho7.moved hmv (fun k hk e => by have := hn7 k hk; omega)
    have H7 := Lib.hid (And.intro hK7 (And.intro hbf (And.intro hof (fun k hk => Nat.le_trans HD.out.1.size (hn7 k hk)))))
    obtain ⟨a7, c7, rfl, _⟩ := ho7.shape
    clear hAl hb7 ho7 hn7 hK7 hmv hbf hof
    gi_wp2
    refine ⟨by simp, .inl ⟨_, _, rfl, run_takeDeferred H7.out.1, ?_⟩⟩
    refine ⟨_, results_tmp rfl _ _ _, _, rfl, (by exact H7.out.2)⟩
  case stop =>
    rintro D W S _ h
    exact h.elim
end Go.Proofs.YtcenagpkfimkbaaGreatDoor
namespace Go.Proofs.YtcenagpkfimkbaaGreatDoor
open Go Go.RowKit
attribute [local go_sem ↓] Go.wp_at_zero Go.wp_at_succ

def cntAll (m : IM Int) (l : List (Int × Int)) : IM Int := l.foldl (fun m p => taL m p.1 (-p.2)) m
theorem cntAll_succ (m : IM Int) (l : List (Int × Int)) {k : Nat} {p : Int × Int} (h : l[k]? = some p) : cntAll m (l.take (k + 1)) = taL (cntAll m (l.take k)) p.1 (-p.2) := by
  rw [List.take_add_one, h, cntAll, List.foldl_append]
  rfl
def drpAll (st : List Bool) (rs : List (Int × Int)) : List Bool := rs.foldl (fun st p => drpL st (p.1 * 16 + 1) (p.2 * 16 - 1)) st
theorem drpAll_succ (st : List Bool) (rs : List (Int × Int)) {k : Nat} {p : Int × Int} (h : rs[k]? = some p) : drpAll st (rs.take (k + 1)) = drpL (drpAll st (rs.take k)) (p.1 * 16 + 1) (p.2 * 16 - 1) := by
  rw [List.take_add_one, h, drpAll, List.foldl_append]
  rfl
theorem owAll_succ2 (n : Nat) (ow : Nat → Int) (rs : List (Int × Int)) (id : Int) {k : Nat} {p : Int × Int} (h : rs[k]? = some p) : owAll n ow (rs.take (k + 1)) id = oW n (owAll n ow (rs.take k) id) p.1 p.2 id := by
  rw [List.take_add_one, h, owAll, List.foldl_append]
  rfl
theorem mdel_mins {α : Type} (m : IM α) (k : Int) (v : α) : mdel (mins (k, v) m) k = mdel m k := by
  induction m with
  | nil => simp [mins, mdel]
  | cons z r ih =>
    unfold mins
    split
    · simp [mdel]
    · unfold mdel at ih ⊢
      rw [List.filter_cons, List.filter_cons, ih]
theorem mdel_mput {α : Type} (m : IM α) (k : Int) (v : α) : mdel (mput m k v) k = mdel m k := by
  unfold mput
  rw [mdel_mins]
  unfold mdel
  rw [List.filter_filter]
  simp
theorem Moved.weak_ {S T : Nat → Prop} {a b : World} (h : Moved S a b) (ht : ∀ q, S q → T q) : Moved T a b := ⟨h.os, h.tape, h.output, h.size, fun k hk hn => h.block k hk (fun e => hn (ht k e))⟩
structure DelOk (H : HM) (r : Int) (A : AR) : Prop where
  f : Fine H
  it : ItOk H
  kl : ∀ a, (onK H.ms H.ds a).length ≤ 4000
  a : lk H.ar r = some A
  out : OutOk H r A.ts
  ol : (outAll H r A.ts).length ≤ 100000
  ok : ∀ p ∈ outAll H r A.ts, 0 ≤ p.1 ∧ p.1 ≤ 1000000 ∧ 0 ≤ p.2 ∧ p.2 ≤ 2147483647
  told : ∀ k, Told (cntAll H.cnt ((outAll H r A.ts).take k)) ∧ (cntAll H.cnt ((outAll H r A.ts).take k)).length ≤ 1000000
  rs : ∀ p ∈ A.rs, 0 ≤ p.1 ∧ p.1 ≤ 1024 ∧ 1 ≤ p.2 ∧ p.2 ≤ 1024
  rl : A.rs.length ≤ 10000
  rel : RelOk H.gs A.rs
  tree : (lk H.par r).isSome = true
def dlH (H : HM) (r : Int) (A : AR) : HM :=
  { H with cnt := cntAll H.cnt (outAll H r A.ts), ow := owAll H.on H.ow A.rs 0, st := drpAll H.st A.rs, gs := relAll H.gs A.rs, ar := mdel H.ar r, par := mdel H.par r, live := mdel H.live r }

set_option maxRecDepth 100000 in
set_option maxHeartbeats 8000000 in
theorem hDelGo_any {B : HB} {H : HM} {O0 O1 : Obj} {w : World} {S : Nat → Prop} (h : HeapSt B H O0 O1 w S) (r : Int) (r0 : 0 ≤ r) (r1 : r ≤ 18446744073709551615) {A : AR} (hk : DelOk H r A) (hgo : delE H r = 0) :
    Calls Tryz.prog 62 #[.pointer (some ⟨B.hb, 0, none⟩), .int .u64 r] w fun e w' => e = .returned (.int .i64 0) ∧ ∃ S', HeapSt B (dlH H r A) O0 O1 w' S' ∧ Grows S S' w w' := by
  have hL := hlives_any h hk.f r r0 r1
  have hlv : livesB H r = true := by
    cases hb : livesB H r
    · rw [delE, if_pos hb] at hgo; cases hgo
    · rfl
  have hkids : kidsL H.par r = [] := by
    rw [delE, if_neg (by rw [hlv]; simp)] at hgo
    by_cases e : kidsL H.par r = []
    · exact e
    · rw [if_pos e] at hgo; cases hgo
  have hcnt : at0 H.cnt r = 0 := by
    rw [delE, if_neg (by rw [hlv]; simp), if_neg (by simpa using hkids)] at hgo
    have := hk.f.ct r
    by_cases e : 0 < at0 H.cnt r
    · rw [if_pos e] at hgo; cases hgo
    · omega
  have hle := livesB_le hlv
  have l1 := hk.f.l1
  have h1r := (hk.it.ar r A hk.a).1
  have h2r := (hk.it.ar r A hk.a).2.1
  rw [hlv, show IntKind.i64.wrap r = r by rw [IntKind.wrap_i64]; omega] at hL
  have HH := Lib.hid (And.intro h (And.intro hk (And.intro hkids (And.intro hcnt hle.2))))
  clear h hk hgo hlv hkids hcnt hle l1
  go_enter Tryz.func62, Tryz.ntmps62
  go_wp2_with fail
  refine hL.mono ?_
  rintro e w1 ⟨rfl, hb1⟩
  have h1 := HH.out.1.later hb1
  have c5 := heap_cell h1.blk 5
  simp at c5
  have hK := trKids_any h1.tree r HH.out.2.1.f.pl
  rw [HH.out.2.2.1] at hK
  have H1 := Lib.hid (And.intro hb1 h1)
  clear hL hb1 h1
  go_wp2_with fail
  refine hK.mono ?_
  rintro e w2 ⟨v, rfl, hb2, hv⟩
  obtain ⟨ka, kc, rfl, _⟩ := owns_slice hv
  have h2 := H1.out.2.later hb2
  have c7 := heap_cell h2.blk 7
  simp at c7
  have hC := taOf_any h2.counts r (by omega) (by omega)
  rw [HH.out.2.2.2.1] at hC
  have H2 := Lib.hid (And.intro (H1.out.1.trans (hb2.mono H1.out.1.size)) h2)
  clear hK hb2 h2 hv c5
  simp only [List.length_nil]
  go_wp2_with fail
  refine hC.mono ?_
  rintro e w3 ⟨rfl, rfl⟩
  clear hC
  have hO := hout_any H2.out.2 HH.out.2.1.f HH.out.2.1.it HH.out.2.1.a HH.out.2.1.kl HH.out.2.1.out HH.out.2.1.ol (fun p hp => by have := HH.out.2.1.ok p hp; omega)
  go_wp2_with fail
  refine hO.mono ?_
  rintro e w4 ⟨v4, rfl, hb4, ho4, hn4⟩
  obtain ⟨oa, oc, rfl, _⟩ := ho4.shape
  have H4 := Lib.hid (And.intro (H2.out.1.trans (hb4.mono H2.out.1.size)) (And.intro (H2.out.2.later hb4) (And.intro ho4 (fun k hk => Nat.le_trans H2.out.1.size (hn4 k hk)))))
  obtain ⟨L, hLd⟩ : ∃ L, outAll H r A.ts = L := ⟨_, rfl⟩
  have HL := Lib.hid hLd
  have hLl : L.length ≤ 100000 := by rw [← hLd]; exact HH.out.2.1.ol
  rw [hLd] at H4
  simp only [hLd]
  clear hO hb4 ho4 hn4 hLd c7
  go_wp2
  go_loopw [41] (fun i wr => ∃ k : Nat, k ≤ L.length ∧ i = .int .i64 k ∧ Hid (∃ S', HeapSt B { H with cnt := cntAll H.cnt (L.take k) } O0 O1 wr S' ∧ Grows S S' w4 wr)) (fun i _ => L.length - (intOf i).toNat)
  case atStart => exact ⟨0, Nat.zero_le _, rfl, Lib.hid ⟨S, by rw [List.take_zero]; exact H4.out.2.1, Grows.refl _ _⟩⟩
  case round =>
    obtain ⟨k, hk, rfl, HV⟩ := hrel
    obtain ⟨S', hs', g'⟩ := HV.out
    by_cases hlt : k < L.length
    · obtain ⟨p, hp⟩ : ∃ p, L[k]? = some p := ⟨_, List.getElem?_eq_getElem hlt⟩
      have hpm := HH.out.2.1.ok p (by rw [HL.out]; exact List.mem_of_getElem? hp)
      rcases H4.out.2.2.1.reads with hrd | ⟨b, off, rfl, hrc⟩
      · rw [hrd] at hlt; simp at hlt
      have hrk := hrc k hlt
      rw [List.getD_eq_getElem?_getD, hp] at hrk
      simp only [Option.getD_some] at hrk
      have hSlt := (HeapSt.ok B H O0 O1).lt HH.out.1
      have hbS : ¬ S b := fun e => by have := hSlt _ e; have := H4.out.2.2.2 b rfl; omega
      have q0 := g'.m.cell hrk.1 hbS
      have q1 := g'.m.cell hrk.2 hbS
      have hsucc := cntAll_succ H.cnt L hp
      have htold := HH.out.2.1.told k
      rw [HL.out] at htold
      obtain ⟨x, y⟩ := p
      obtain ⟨X, hX⟩ : ∃ X, wr.alloc (.cells #[.int .i64 x, .int .i64 y] 160) = X := ⟨_, rfl⟩
      have hbX : Below wr.heap.size wr X := by rw [← hX]; exact (Below.refl _ _).alloc (Nat.le_refl _) _
      have oX : X.heap[wr.heap.size]? = some (.cells #[.int .i64 x, .int .i64 y] 160 (0, 0)) := by rw [← hX]; exact heap_alloc_eq _ _
      have hXs := hs'.later hbX
      have c7 := heap_cell hXs.blk 7
      have x0 := heap_cell oX 0
      have x1 := heap_cell oX 1
      simp at c7 x0 x1
      have yw : IntKind.i64.wrap (-y) = -y := IntWalk.i64_in _ (by omega)
      have hcmS : ∀ k', k' = B.cm → k' ≠ B.hb ∧ k' < wr.heap.size := fun k' e => by
        subst e
        refine ⟨fun e => ?_, hs'.counts.map.lt⟩
        obtain ⟨es, clock, hh⟩ := hs'.counts.map.block
        have := hs'.blk
        rw [← e, hh] at this
        simp [heapObj] at this
      have hAd := fun n => (taAdd_any (hXs.later (show Below X.heap.size X (X.drewN n) from ⟨rfl, rfl, rfl, by simp, fun _ _ => rfl⟩)).counts htold.1 x (-y) (by omega) (by omega) (by omega) (by omega) (Nat.le_trans htold.2 (by decide))).mono (R' := fun e w7 => (∃ er : Int, e = .returned (.int .i64 er)) ∧ (∃ S7, HeapSt B { H with cnt := cntAll H.cnt (L.take (k + 1)) } O0 O1 w7 S7 ∧ Grows S S7 w4 w7) ∧ (w7.cell? ⟨B.hb, 7, none⟩ = some (.pointer (some ⟨B.cb, 0, none⟩)) ∧ w7.cell? ⟨wr.heap.size, 0, none⟩ = some (.int .i64 x) ∧ w7.cell? ⟨wr.heap.size, 1, none⟩ = some (.int .i64 y)))
        (fun e w7 ⟨he, hm, ht⟩ => by
          have hbd : Below X.heap.size X (X.drewN n) := ⟨rfl, rfl, rfl, by simp, fun _ _ => rfl⟩
          obtain ⟨S7, h7, g7⟩ := (hXs.later hbd).cntStep hm ht
          have hmX : Moved (fun q => q = B.cm) X w7 := (Moved.of_below hbd _).trans hm (fun q e => .inl e)
          have hcm := hcmS _ rfl
          refine ⟨⟨_, he⟩, ⟨S7, by rw [hsucc]; exact h7, g'.trans (Grows.after_below hbX (Grows.after_below hbd g7))⟩, hmX.cell c7 (fun e => hcm.1 e.symm), hmX.cell x0 (fun e => ?_), hmX.cell x1 (fun e => ?_)⟩
          · have : wr.heap.size = B.cm := e; omega
          · have : wr.heap.size = B.cm := e; omega)
      have HA := Lib.hid hAd
      clear hAd hXs oX hbX hrc hrk hbS hSlt hsucc htold hpm hp hs' g' hcmS
      go_wp2_with fail
      try rw [hX]
      go_wp2_with fail
      go_region_held3 (fun w' => w'.cell? ⟨B.hb, 7, none⟩ = some (.pointer (some ⟨B.cb, 0, none⟩)) ∧ w'.cell? ⟨wr.heap.size, 0, none⟩ = some (.int .i64 x) ∧ w'.cell? ⟨wr.heap.size, 1, none⟩ = some (.int .i64 y)) (first | (with_reducible exact HZ.out.2) | go_keep) ((go_at_call 109; refine (HA.out _).mono ?_; rintro e w7 ⟨⟨er, rfl⟩, h7, hc7⟩; have HZ := Lib.hid (And.intro h7 hc7); clear h7 hc7))
      all_goals
        go_wp2
        go_roundw
        case rel => exact ⟨k + 1, by omega, by go_num, Lib.hid HZ.out.1⟩
        case measure => simp [intOf]; omega
    · obtain rfl : k = L.length := by omega
      rw [List.take_length] at hs'
      have H5 := Lib.hid (And.intro hs' g')
      obtain ⟨H1d, hH1d⟩ : ∃ H1d : HM, { H with cnt := cntAll H.cnt L } = H1d := ⟨_, rfl⟩
      have har1 : H1d.ar = H.ar := by rw [← hH1d]
      have heq1 : Hid (H1d.on = H.on ∧ H1d.ow = H.ow ∧ H1d.st = H.st ∧ H1d.gs = H.gs ∧ H1d.par = H.par ∧ H1d.live = H.live ∧ H1d.last = H.last) := Lib.hid (by rw [← hH1d]; exact ⟨rfl, rfl, rfl, rfl, rfl, rfl, rfl⟩)
      rw [hH1d] at H5
      have hA1 : lk H1d.ar r = some A := by rw [har1]; exact HH.out.2.1.a
      have hlk := arMap_look H5.out.1 hA1 (by omega) h2r
      obtain ⟨vr, vt, har⟩ := H5.out.1.arena h1r hA1
      have hRu := arRuns_any har (by have := HH.out.2.1.rl; omega)
      have c6 := heap_cell H5.out.1.blk 6
      simp at c6
      have HA1 := Lib.hid (And.intro hA1 hH1d)
      clear hs' g' hA1 har har1 hH1d
      go_wp2_with fail
      refine hRu.mono ?_
      rintro e w6 ⟨v6, rfl, hb6, hv6, hn6⟩
      obtain ⟨ra, rc, rfl, hrc, hr0, hrq⟩ := hv6.shape
      have H6 := Lib.hid (And.intro (H5.out.1.later hb6) (And.intro hb6 (And.intro hv6 hn6)))
      have nv : Hid (∀ k, (Value.slice ra A.rs.length rc).ownBlock = some k → ¬ S' k) := Lib.hid (fun k e f => by have := H5.out.1.lt f; have := hn6 k e; omega)
      have hRl : A.rs.length ≤ 10000 := HH.out.2.1.rl
      clear hRu hb6 hv6 hn6 hlk c6 hrc hr0 hrq
      go_wp2
      go_loopw [64] (fun c wr => ∃ k : Nat, k ≤ A.rs.length ∧ c = .int .i64 (k : Int) ∧ Hid (∃ S2, HeapSt B { H1d with ow := owAll H.on H.ow (A.rs.take k) 0, st := drpAll H.st (A.rs.take k) } O0 O1 wr S2 ∧ Grows S' S2 w6 wr)) (fun c _ => A.rs.length - (intOf c).toNat)
      case atStart => exact ⟨0, Nat.zero_le _, rfl, Lib.hid ⟨S', by
        have := H6.out.1
        rw [show ({ H1d with ow := owAll H.on H.ow (A.rs.take 0) 0, st := drpAll H.st (A.rs.take 0) } : HM) = H1d by rw [List.take_zero]; simp only [owAll, drpAll, List.foldl_nil]; rw [← heq1.out.2.1, ← heq1.out.2.2.1]]
        exact this, Grows.refl _ _⟩⟩
      case round =>
        obtain ⟨k, hk, rfl, HV⟩ := hrel
        obtain ⟨S2, h2, g2⟩ := HV.out
        have hv7 : OwnRuns wr (.slice ra A.rs.length rc) A.rs := (H6.out.2.2.1).moved g2.m nv.out
        by_cases hlt : k < A.rs.length
        · obtain ⟨p, hp⟩ : ∃ p, A.rs[k]? = some p := ⟨_, List.getElem?_eq_getElem hlt⟩
          have hpm := HH.out.2.1.rs p (List.mem_of_getElem? hp)
          rcases hv7.reads with hrd | ⟨b, off, rfl, hrc⟩
          · rw [hrd] at hlt; simp at hlt
          have hrk := hrc k hlt
          rw [List.getD_eq_getElem?_getD, hp] at hrk
          simp only [Option.getD_some] at hrk
          obtain ⟨q0, q1⟩ := hrk
          have hS2 := (HeapSt.ok B _ O0 O1).lt h2
          have hsO := owAll_succ2 H.on H.ow A.rs 0 hp
          have hsD := drpAll_succ H.st A.rs hp
          obtain ⟨x, y⟩ := p
          obtain ⟨X, hX⟩ : ∃ X, wr.alloc (.cells #[.int .i64 x, .int .i64 y] 160) = X := ⟨_, rfl⟩
          have hbX : Below wr.heap.size wr X := by rw [← hX]; exact (Below.refl _ _).alloc (Nat.le_refl _) _
          have oX : X.heap[wr.heap.size]? = some (.cells #[.int .i64 x, .int .i64 y] 160 (0, 0)) := by rw [← hX]; exact heap_alloc_eq _ _
          have hXs := h2.later hbX
          have c1 := heap_cell hXs.blk 1
          have x0 := heap_cell oX 0
          have x1 := heap_cell oX 1
          simp at c1 x0 x1
          have hOw := fun n => ((hXs.later (show Below X.heap.size X (X.drewN n) from ⟨rfl, rfl, rfl, by simp, fun _ _ => rfl⟩)).owStep x y 0).mono (R' := fun e w7 => (∃ er : Int, e = .returned (.int .i64 er)) ∧ (∃ S7, HeapSt B { H1d with ow := owAll H.on H.ow (A.rs.take (k + 1)) 0, st := drpAll H.st (A.rs.take k) } O0 O1 w7 S7 ∧ Grows S' S7 w6 w7 ∧ ¬ S7 wr.heap.size) ∧ w7.heap[wr.heap.size]? = some (.cells #[.int .i64 x, .int .i64 y] 160 (0, 0)) ∧ (w7.cell? ⟨B.hb, 1, none⟩ = some (.pointer (some ⟨B.ob, 0, none⟩)) ∧ w7.cell? ⟨wr.heap.size, 0, none⟩ = some (.int .i64 x) ∧ w7.cell? ⟨wr.heap.size, 1, none⟩ = some (.int .i64 y)))
            (fun e w7 ⟨he, S7, h7, g7⟩ => by
              have hbd : Below X.heap.size X (X.drewN n) := ⟨rfl, rfl, rfl, by simp, fun _ _ => rfl⟩
              have hgX : Grows S2 S7 X w7 := Grows.after_below hbd g7
              have hXl := heap_lt oX
              have hbox := hgX.m.heap oX (fun e => by have := hS2 _ e; omega)
              have h7' : HeapSt B { H1d with ow := owAll H.on H.ow (A.rs.take (k + 1)) 0, st := drpAll H.st (A.rs.take k) } O0 O1 w7 S7 := by
                rw [hsO]
                simpa only [heq1.out.1] using h7
              have cc := heap_cell h7'.blk 1
              have b0 := heap_cell hbox 0
              have b1 := heap_cell hbox 1
              simp at cc b0 b1
              refine ⟨⟨_, he⟩, ⟨S7, h7', g2.trans (Grows.after_below hbX hgX), fun e => ?_⟩, hbox, cc, b0, b1⟩
              rcases hgX.s _ e with h | h
              · have := hS2 _ h; omega
              · omega)
          have HO := Lib.hid hOw
          have HD := Lib.hid hsD
          clear hOw hXs oX hbX hrc hsO hsD hp h2 g2 hv7 hS2
          go_wp2_with fail
          try rw [hX]
          go_wp2_with fail
          go_region_held3 (fun w' => w'.cell? ⟨B.hb, 1, none⟩ = some (.pointer (some ⟨B.ob, 0, none⟩)) ∧ w'.cell? ⟨wr.heap.size, 0, none⟩ = some (.int .i64 x) ∧ w'.cell? ⟨wr.heap.size, 1, none⟩ = some (.int .i64 y)) (first | (with_reducible exact HZ.out.2.2) | go_keep) ((go_at_call 111; refine (HO.out _).mono ?_; rintro e w7 ⟨⟨er, rfl⟩, h7, hbox, hc7⟩; have HZ := Lib.hid (And.intro h7 (And.intro hbox hc7)); clear h7 hbox hc7))
          all_goals
            clear c1 x0 x1
            obtain ⟨S7, h7, g7, n7⟩ := HZ.out.1
            have c2 := heap_cell h7.blk 2
            have x0 := heap_cell HZ.out.2.1 0
            have x1 := heap_cell HZ.out.2.1 1
            simp at c2 x0 x1
            have y1 : IntKind.i64.wrap (x * 16) = x * 16 := IntWalk.i64_in _ (by omega)
            have y2 : IntKind.i64.wrap (x * 16 + 1) = x * 16 + 1 := IntWalk.i64_in _ (by omega)
            have y3 : IntKind.i64.wrap (y * 16) = y * 16 := IntWalk.i64_in _ (by omega)
            have y4 : IntKind.i64.wrap (y * 16 - 1) = y * 16 - 1 := IntWalk.i64_in _ (by omega)
            have hDr := fun n => (sDrop_any (h7.later (show Below w7.heap.size w7 (w7.drewN n) from ⟨rfl, rfl, rfl, by simp, fun _ _ => rfl⟩)).starts (x * 16 + 1) (y * 16 - 1) (by omega) (by omega) (by omega) (by omega)).mono (R' := fun e w8 => (∃ er : Int, e = .returned (.int .i64 er)) ∧ (∃ S8, HeapSt B { H1d with ow := owAll H.on H.ow (A.rs.take (k + 1)) 0, st := drpAll H.st (A.rs.take (k + 1)) } O0 O1 w8 S8 ∧ Grows S' S8 w6 w8) ∧ (w8.cell? ⟨B.hb, 2, none⟩ = some (.pointer (some ⟨B.sb, 0, none⟩)) ∧ w8.cell? ⟨wr.heap.size, 0, none⟩ = some (.int .i64 x) ∧ w8.cell? ⟨wr.heap.size, 1, none⟩ = some (.int .i64 y)))
              (fun e w8 ⟨he, hm, ht⟩ => by
                have hbd : Below w7.heap.size w7 (w7.drewN n) := ⟨rfl, rfl, rfl, by simp, fun _ _ => rfl⟩
                obtain ⟨S8, h8, g8⟩ := (h7.later hbd).stStep hm ht
                have hg8 : Grows S7 S8 w7 w8 := Grows.after_below hbd g8
                have hbox := hg8.m.heap HZ.out.2.1 n7
                have cc := heap_cell h8.blk 2
                have b0 := heap_cell hbox 0
                have b1 := heap_cell hbox 1
                simp at cc b0 b1
                exact ⟨he, ⟨S8, by rw [HD.out]; exact h8, g7.trans hg8⟩, cc, b0, b1⟩)
            have HDr := Lib.hid hDr
            clear hDr h7 g7 n7
            go_wp2
            go_region_held3 (fun w' => w'.cell? ⟨B.hb, 2, none⟩ = some (.pointer (some ⟨B.sb, 0, none⟩)) ∧ w'.cell? ⟨wr.heap.size, 0, none⟩ = some (.int .i64 x) ∧ w'.cell? ⟨wr.heap.size, 1, none⟩ = some (.int .i64 y)) (first | (with_reducible exact HZ8.out.2) | go_keep) ((go_at_call 112; refine (HDr.out _).mono ?_; rintro e w8 ⟨⟨er, rfl⟩, h8, hc8⟩; have HZ8 := Lib.hid (And.intro h8 hc8); clear h8 hc8))
            all_goals
              clear y1 y2 y3 y4
              go_wp2
              go_roundw
              case rel => exact ⟨k + 1, by omega, by go_num, Lib.hid HZ8.out.1⟩
              case measure => simp [intOf]; omega
        · obtain rfl : k = A.rs.length := by omega
          rw [List.take_length] at h2
          have hA2 : lk H1d.ar r = some A := HA1.out.1
          obtain ⟨T, hT, hTc⟩ := h2.relStep h1r (A := A) hA2 (by omega) (by show RelOk H1d.gs A.rs; rw [heq1.out.2.2.2.1]; exact HH.out.2.1.rel)
          have hlk := arMap_look h2 (A := A) hA2 (by omega) h2r
          have c6 := heap_cell h2.blk 6
          simp at c6
          have HT := Lib.hid (And.intro hTc g2)
          clear h2 g2 hv7 hTc hA2
          go_wp2_with fail
          refine hT.mono ?_
          rintro e w9 ⟨rfl, ht9⟩
          obtain ⟨A', S9, h9, g9⟩ := HT.out.1 w9 ht9
          have c6 := heap_cell h9.blk 6
          simp at c6
          obtain ⟨w10, hr10, hm10, ht10⟩ := h9.arenas.drop Tryz.underlying3 Tryz.underlying112 r (wf_i64 (by omega) (by omega)) 0
          have H9 := Lib.hid (And.intro h9 (And.intro g9 (And.intro hm10 ht10)))
          obtain ⟨S10, h10, g10⟩ := h9.dropArena h1r ht10 hm10
          have c5 := heap_cell h10.blk 5
          simp at c5
          have hRm := trRemove_any h10.tree r (by omega) (by omega) (by show H1d.par.length ≤ _; rw [heq1.out.2.2.2.2.1]; exact HH.out.2.1.f.pl) (by show (lk H1d.par r).isSome = true; rw [heq1.out.2.2.2.2.1]; exact HH.out.2.1.tree) (by show kidsL H1d.par r = []; rw [heq1.out.2.2.2.2.1]; exact HH.out.2.2.1)
          have H10 := Lib.hid (And.intro h10 g10)
          clear h9 g9 hm10 ht10 h10 g10 hT ht9 hlk
          go_wp2_with fail
          refine hRm.mono ?_
          rintro e w11 ⟨rfl, hm11, ht11⟩
          obtain ⟨S11, h11, g11⟩ := H10.out.1.treeStep hm11 ht11
          have c4 := heap_cell h11.blk 4
          simp at c4
          have hTk := iTake_any h11.book r (by omega) (by omega) (by show (lk H1d.live r).isSome = true; rw [heq1.out.2.2.2.2.2.1]; exact HH.out.2.2.2.2)
          have H11 := Lib.hid (And.intro h11 g11)
          clear hRm hm11 ht11 h11 g11
          go_wp2_with fail
          refine hTk.mono ?_
          rintro e w12 ⟨rfl, hm12, ht12⟩
          obtain ⟨S12, h12, g12⟩ := H11.out.1.bookStep (hm12.weak_ (fun q e => .inr e)) ht12
          have H12 := Lib.hid (And.intro h12 g12)
          clear hTk hm12 ht12 h12 g12
          go_wp2
          go_ret
          refine ⟨rfl, S12, ?_, (Grows.below H4.out.1).trans (H5.out.2.trans (Grows.after_below H6.out.2.1 (HT.out.2.trans (H9.out.2.1.trans (H10.out.2.trans (H11.out.2.trans H12.out.2))))))⟩
          have hfin := H12.out.1
          have hriz : Rising H.ar := (rising_mapV _ _).1 HH.out.1.arenas.rising
          have hmd : mdel (mput H1d.ar r A') r = mdel H1d.ar r := mdel_mput _ _ _
          simp only [hmd] at hfin
          rw [← HA1.out.2] at hfin
          rw [dlH, HL.out]
          exact hfin
end Go.Proofs.YtcenagpkfimkbaaGreatDoor
