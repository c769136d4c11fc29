/-
  Contracts of functions of the program, laid together.
-/
import Derived.Test.YtcenagpkfimkbaaGreatDoorTopSlotsM5
import Derived.Test.YtcenagpkfimkbaaGreatDoorTopSlotsM11
import Derived.Test.YtcenagpkfimkbaaGreatDoorTopSlotsM27
import Derived.Test.YtcenagpkfimkbaaGreatDoorTopSlotsM28
import Derived.Test.YtcenagpkfimkbaaGreatDoorTopSlotsM29
import Derived.BigQuiet
import Derived.Deep.QuietTactic
namespace Go.Proofs.YtcenagpkfimkbaaGreatDoor
open Go Go.RowKit Go.Shelf

attribute [local go_sem] Oper.semAt_some
@[local go_sem] theorem wide_fnO (f : FuncId) : Fence.wide.fn f = True := rfl

theorem hobjects_any (hb : Nat) (id : Int) (w : World) : Calls Tryz.prog 32 #[.pointer (some ⟨hb, 0, none⟩), .int .i64 id] w fun e w' => e = .returned (.func (.func 86) #[] #[.pointer (some ⟨w.heap.size, 0, none⟩), .pointer (some ⟨w.heap.size + 1, 0, none⟩)]) ∧ w' = (w.alloc (.cells #[.pointer (some ⟨hb, 0, none⟩)] 59)).alloc (.cells #[.int .i64 id] 3) := by
  go_enter Tryz.func32, Tryz.ntmps32
  go_wp2
  go_ret
  exact ⟨rfl, rfl⟩

abbrev objV (H : HM) (a id : Int) (y1 y2 : Option Addr) (c1 c2 : Nat) : Value :=
  .agg #[.int .i64 (onI H.ms H.ds a a), .int .i64 id, .bool (onA H.ms H.ds a), .int .i64 (onI H.ms H.ds a (gK (onX H.ms a))), .int .i64 (onI H.ms H.ds a (gT (onX H.ms a))), .int .i64 (onI H.ms H.ds a (gN (onX H.ms a))), .slice y1 (onK H.ms H.ds a).length c1, .slice y2 (onV H.ms H.ds a).length c2]
def ObjE (B : HB) (H : HM) (O0 O1 : Obj) (id : Int) (p : Int × Int) (args : Array Value) : HP := fun W S =>
  (∃ SH, HeapSt B H O0 O1 W SH ∧ ∀ k, SH k → ¬ S k) ∧ ∃ y1 y2 c1 c2, args = #[objV H (p.1 + 1) id y1 y2 c1 c2] ∧ Reads .i64 W y1 (onK H.ms H.ds (p.1 + 1)) ∧ Reads .u64 W y2 (onV H.ms H.ds (p.1 + 1)) ∧
    (onK H.ms H.ds (p.1 + 1) = [] ∨ ∀ q, y1 = some q → ¬ S q.block ∧ q.block < W.heap.size) ∧ (onV H.ms H.ds (p.1 + 1) = [] ∨ ∀ q, y2 = some q → ¬ S q.block ∧ q.block < W.heap.size)
def ObjPre (B : HB) (H : HM) (O0 O1 : Obj) (Bh Bi : Nat) (id : Int) : HP := fun W S =>
  W.heap[Bh]? = some (.cells #[.pointer (some ⟨B.hb, 0, none⟩)] 59 (0, 0)) ∧ W.heap[Bi]? = some (.cells #[.int .i64 id] 3 (0, 0)) ∧ ¬ S Bh ∧ ¬ S Bi ∧ ∃ SH, HeapSt B H O0 O1 W SH ∧ ∀ k, SH k → ¬ S k
structure ItOk (H : HM) : Prop where
  dd : ∀ d ∈ H.ds, d.length ≤ 100
  dl : H.ds.length ≤ 1000
  ms : ∀ v ∈ H.ms, 0 ≤ v ∧ v < 18446744073709551616
  ar : ∀ r A, lk H.ar r = some A → 1 ≤ r ∧ r ≤ 1000000 ∧ A.ts.length ≤ 100000 ∧ ∀ p ∈ A.ts, 0 ≤ p.1 ∧ p.1 ≤ 100000

theorem objK_ {W w1 : World} {n Bh Bi hb am ab : Nat} {id : Int} {v : Value} {ts : List (Int × Int)} (b0 : W.cell? ⟨Bh, 0, none⟩ = some (.pointer (some ⟨hb, 0, none⟩))) (b1 : W.cell? ⟨Bi, 0, none⟩ = some (.int .i64 id)) (c6 : W.cell? ⟨hb, 6, none⟩ = some (.map (some am)))
    (hlk : ∀ (w' : World), Below W.heap.size W w' → (Instr.lookup 112 (.map (some am)) (.int .i64 id) false).run Tryz.prog w' = .ok (.pointer (some ⟨ab, 0, none⟩)) w') (hbl : Below (W.drewN n).heap.size (W.drewN n) w1) (ho : OwnRuns w1 v ts) (hn : ∀ k, v.ownBlock = some k → (W.drewN n).heap.size ≤ k) :
    (w1.cell? ⟨Bh, 0, none⟩ = some (.pointer (some ⟨hb, 0, none⟩)) ∧ w1.cell? ⟨Bi, 0, none⟩ = some (.int .i64 id) ∧ w1.cell? ⟨hb, 6, none⟩ = some (.map (some am)) ∧ (Instr.lookup 112 (.map (some am)) (.int .i64 id) false).run Tryz.prog w1 = .ok (.pointer (some ⟨ab, 0, none⟩)) w1) ∧ Below W.heap.size W w1 ∧ OwnRuns w1 v ts ∧ ∀ k, v.ownBlock = some k → W.heap.size ≤ k := by
  have hb2 : Below W.heap.size W w1 := ⟨hbl.os, hbl.tape, hbl.output, hbl.size, hbl.block⟩
  exact ⟨⟨(hb2.cell (cell_lt b0)).trans b0, (hb2.cell (cell_lt b1)).trans b1, (hb2.cell (cell_lt c6)).trans c6, hlk w1 hb2⟩, hb2, ho, hn⟩

set_option maxRecDepth 100000 in
set_option maxHeartbeats 4000000 in
theorem objs_hands (B : HB) (H : HM) (O0 O1 : Obj) (hk : ItOk H) {id : Int} {A : AR} (hA : lk H.ar id = some A) (Bh Bi : Nat) :
    Hands Tryz.prog 86 #[.pointer (some ⟨Bh, 0, none⟩), .pointer (some ⟨Bi, 0, none⟩)] (ObjE B H O0 O1 id) (fun pre => pre <+: A.ts) (fun xs => xs = A.ts) (ObjPre B H O0 O1 Bh Bi id) := by
  intro l J Jx hJ hJx hY W S h0 hP
  obtain ⟨hBh, hBi, n1, n2, SH, hH, hdis⟩ := hP
  have hlt := (hJ []).lt h0
  obtain ⟨i1, i2, htl, htr⟩ := hk.ar id A hA
  obtain ⟨vr, vt, har⟩ := hH.arena i1 hA
  have b0 := heap_cell hBh 0
  have b1 := heap_cell hBi 0
  have c6 := heap_cell hH.blk 6
  simp at b0 b1 c6
  have hlk := fun (w' : World) (hb : Below W.heap.size W w') => arMap_look (w := w') (hH.later hb) hA (by omega) i2
  have hlk1 := hlk W.drew ⟨rfl, rfl, rfl, by simp, fun _ _ => rfl⟩
  have HLK := Lib.hid hlk
  have hTh := fun n => arThings_any (w := W.drewN n) (har.later (show Below W.heap.size W (W.drewN n) from ⟨rfl, rfl, rfl, by simp, fun _ _ => rfl⟩)) (by omega)
  refine (callsIn_wide (n := 3)).1 ?_
  refine callsIn_of_wp Tryz.func86 rfl trivial ?_ rfl
  simp only [Tryz.ntmps86, List.size_toArray, List.length_cons, List.length_nil, Nat.reduceAdd, Nat.reduceSub, Array.replicate_succ, Array.replicate_zero, List.push_toArray, List.append_toArray, List.nil_append, List.cons_append]
  have HY := Lib.hid hY
  have HP := Lib.hid (And.intro hBh (And.intro hBi (And.intro n1 (And.intro n2 (And.intro hH (And.intro hdis hlt))))))
  have HJ := Lib.hid (And.intro hJ (And.intro hJx h0))
  have HT := Lib.hid (And.intro hTh (And.intro hk htr))
  clear hY hBh hBi n1 n2 hH hdis hJ hJx h0 hTh hk htr har hlt hA hlk
  gi_wp2
  refine wpIn_wide.2 ?_
  go_region_held3 (fun w' => w'.cell? ⟨Bh, 0, none⟩ = some (.pointer (some ⟨B.hb, 0, none⟩)) ∧ w'.cell? ⟨Bi, 0, none⟩ = some (.int .i64 id) ∧ w'.cell? ⟨B.hb, 6, none⟩ = some (.map (some B.am)) ∧ (Instr.lookup 112 (.map (some B.am)) (.int .i64 id) false).run Tryz.prog w' = .ok (.pointer (some ⟨A.ab, 0, none⟩)) w') (first | (with_reducible exact HZ.out.1) | go_keep) ((go_at_call 87; refine (HT.out.1 _).mono ?_; rintro e w1 ⟨v, rfl, hb1, ho1, hn1⟩; have HZ := Lib.hid (objK_ b0 b1 c6 HLK.out hb1 ho1 hn1); obtain ⟨a, c, rfl, _⟩ := ho1.shape; clear hb1 ho1 hn1))
  all_goals
    have hbz := HZ.out.2.1.size
    clear hlk1 b0 b1 c6
    gi_wp2
    gi_loopw [16] (fun i wr => ∃ j : Nat, j ≤ A.ts.length ∧ i = .int .i64 j ∧ Hid (∃ S', J (A.ts.take j) wr S' ∧ Grows S S' w1 wr)) (fun i _ => A.ts.length - (intOf i).toNat)
    case atStart => exact ⟨0, Nat.zero_le _, rfl, Lib.hid ⟨S, by rw [List.take_zero]; exact (HJ.out.1 []).below HJ.out.2.2 HZ.out.2.1, Grows.refl _ _⟩⟩
    case round =>
      obtain ⟨j, hj, rfl, HV⟩ := hrel
      by_cases hlt : j < A.ts.length
      · obtain ⟨S', j1, j2⟩ := HV.out
        obtain ⟨p, hpj⟩ : ∃ p, A.ts[j]? = some p := ⟨_, List.getElem?_eq_getElem hlt⟩
        have hpm := HT.out.2.2 p (List.mem_of_getElem? hpj)
        have hrd := HZ.out.2.2.1.reads
        rcases hrd with hrd | ⟨rb, off, rfl, hrc⟩
        · rw [hrd] at hlt; simp at hlt
        have hrk := hrc j hlt
        rw [List.getD_eq_getElem?_getD, hpj] at hrk
        simp only [Option.getD_some] at hrk
        have hSb : ∀ k, W.heap.size ≤ k → ¬ S k := fun k h e => by have := HP.out.2.2.2.2.2.2 k e; omega
        have hrb : W.heap.size ≤ rb := HZ.out.2.2.2 rb rfl
        have q0 := j2.m.cell hrk.1 (hSb _ hrb)
        have q1 := j2.m.cell hrk.2 (hSb _ hrb)
        have hHr := (HeapSt.ok B H O0 O1).moved (HP.out.2.2.2.2.1.later HZ.out.2.1) j2.m HP.out.2.2.2.2.2.1
        have hBh := j2.m.heap (heap_below HZ.out.2.1 HP.out.1 (heap_lt HP.out.1)) HP.out.2.2.1
        have hBi := j2.m.heap (heap_below HZ.out.2.1 HP.out.2.1 (heap_lt HP.out.2.1)) HP.out.2.2.2.1
        obtain ⟨X, hX⟩ : ∃ X, wr.alloc (.cells #[.int .i64 p.1, .int .i64 p.2] 160) = X := ⟨_, rfl⟩
        have hbX : Below wr.heap.size wr X := by rw [← hX]; exact (Below.refl _ _).alloc (Nat.le_refl _) _
        have oX : X.heap[wr.heap.size]? = some (.cells #[.int .i64 p.1, .int .i64 p.2] 160 (0, 0)) := by rw [← hX]; exact heap_alloc_eq _ _
        have hXh := hHr.later hbX
        have hBhX := heap_below hbX hBh (heap_lt hBh)
        have hBiX := heap_below hbX hBi (heap_lt hBi)
        have c0 := heap_cell hXh.blk 0
        have c3 := heap_cell hXh.blk 3
        have b0 := heap_cell hBhX 0
        have b1 := heap_cell hBiX 0
        have r0 := heap_cell oX 0
        simp at c0 c3 b0 b1 r0
        obtain ⟨av, hav⟩ : ∃ av, p.1 + 1 = av := ⟨_, rfl⟩
        have yw : IntKind.i64.wrap (p.1 + 1) = av := by rw [hav, IntKind.wrap_i64]; omega
        have HP1 := Lib.hid (And.intro hpj (And.intro hav (And.intro j1 (And.intro j2 (And.intro hSb hHr)))))
        have HMm := fun w' (hb : Below X.heap.size X w') => pMem_any (w := w') (hXh.later hb).pages
        have HOn := fun w' (hb : Below X.heap.size X w') => (One_any B.mb B.mw H.ms av B.ta H.ds B.tc w' (hXh.later hb).tabs.1 (hXh.later hb).pages.mem (hXh.later hb).types HT.out.2.1.dd (by have := HT.out.2.1.dl; omega) HT.out.2.1.ms (by omega)).mono (R' := fun e w2 => OneRet (fun _ => False) H.ms H.ds av w' e w2 ∧ Below X.heap.size X w2 ∧ (w2.cell? ⟨Bh, 0, none⟩ = some (.pointer (some ⟨B.hb, 0, none⟩)) ∧ w2.cell? ⟨B.hb, 0, none⟩ = some (.pointer (some ⟨B.pb, 0, none⟩)) ∧ w2.cell? ⟨B.hb, 3, none⟩ = some (.slice B.ta H.ds.length B.tc) ∧ w2.cell? ⟨wr.heap.size, 0, none⟩ = some (.int .i64 p.1)) ∧ (X.heap.size < w'.heap.size → w2.heap[X.heap.size]? = w'.heap[X.heap.size]?))
          (fun e w2 ho => have hb2 : Below X.heap.size X w2 := (by obtain ⟨_, _, _, _, _, h, _⟩ := ho; exact hb.trans (h.mono hb.size)); ⟨ho, hb2, ⟨(hb2.cell (p := ⟨Bh, 0, none⟩) (cell_lt b0)).trans b0, (hb2.cell (p := ⟨B.hb, 0, none⟩) (cell_lt c0)).trans c0, (hb2.cell (p := ⟨B.hb, 3, none⟩) (cell_lt c3)).trans c3, (hb2.cell (p := ⟨wr.heap.size, 0, none⟩) (cell_lt r0)).trans r0⟩, fun h1 => by obtain ⟨_, _, _, _, _, h, _⟩ := ho; exact h.block _ h1⟩)
        have HMO := Lib.hid (And.intro HMm HOn)
        have HXX := Lib.hid (And.intro hbX (And.intro oX (And.intro hXh (And.intro hBhX hBiX))))
        have hne1 : ¬ Bh = X.heap.size := by have h1 := heap_lt hBhX; omega
        have hne2 : ¬ B.hb = X.heap.size := by have h1 := heap_lt hXh.blk; omega
        have hne3 : ¬ wr.heap.size = X.heap.size := by have h1 := heap_lt oX; omega
        clear hXh hBhX hBiX oX hbX HMm HOn hBh hBi hHr hSb hpj hav hrk hrc j1 j2 hpm hrb b1
        gi_wp2_with fail
        try rw [hX]
        gi_wp2_with fail
        refine wpIn_wide.2 ?_
        go_region_held3 (fun w' => w'.cell? ⟨Bh, 0, none⟩ = some (.pointer (some ⟨B.hb, 0, none⟩)) ∧ w'.cell? ⟨B.hb, 0, none⟩ = some (.pointer (some ⟨B.pb, 0, none⟩)) ∧ w'.cell? ⟨B.hb, 3, none⟩ = some (.slice B.ta H.ds.length B.tc) ∧ w'.cell? ⟨wr.heap.size, 0, none⟩ = some (.int .i64 p.1)) (first | (with_reducible exact hq) | (with_reducible exact ⟨set8_cell _ _ _ _ _ _ _ _ hne1 hq.1, set8_cell _ _ _ _ _ _ _ _ hne2 hq.2.1, set8_cell _ _ _ _ _ _ _ _ hne2 hq.2.2.1, set8_cell _ _ _ _ _ _ _ _ hne3 hq.2.2.2⟩) | go_keep) (first | (go_at_call 89; refine (HMO.out.1 _ (by first | exact ⟨rfl, rfl, rfl, by simp, fun _ _ => rfl⟩ | exact (Below.refl _ _).alloc (Nat.le_refl _) _ | exact (show Below X.heap.size X X.drew from ⟨rfl, rfl, rfl, by simp, fun _ _ => rfl⟩).alloc (by simp) _)).mono ?_; rintro e w' ⟨rfl, rfl⟩) | (go_at_call 88; refine (HMO.out.2 _ (by first | exact ⟨rfl, rfl, rfl, by simp, fun _ _ => rfl⟩ | exact (Below.refl _ _).alloc (Nat.le_refl _) _ | exact (show Below X.heap.size X X.drew from ⟨rfl, rfl, rfl, by simp, fun _ _ => rfl⟩).alloc (by simp) _)).mono ?_; rintro e w2 ⟨⟨y1, y2, d1, d2, rfl, hb2, hr1, hr2, ho1, ho2⟩, hbx, hq, hz⟩; (first | (have oz := (hz (by simp)).trans (heap_alloc_eq X.drew (.cells #[.int .i64 0, .int .i64 0, .bool false, .int .i64 0, .int .i64 0, .int .i64 0, .slice none 0 0, .slice none 0 0] 104)); have z0 := heap_cell oz 0; have e0 := heap_free oz 0; have z1 := heap_cell oz 1; have e1 := heap_free oz 1; have z2 := heap_cell oz 2; have e2 := heap_free oz 2; have z3 := heap_cell oz 3; have e3 := heap_free oz 3; have z4 := heap_cell oz 4; have e4 := heap_free oz 4; have z5 := heap_cell oz 5; have e5 := heap_free oz 5; have z6 := heap_cell oz 6; have e6 := heap_free oz 6; have z7 := heap_cell oz 7; have e7 := heap_free oz 7; simp at z0 z1 z2 z3 z4 z5 z6 z7; have OZ := Lib.hid oz; clear oz) | skip); clear hz; have HR := Lib.hid (And.intro hb2 (And.intro hr1 (And.intro hr2 (And.intro ho1 (And.intro ho2 hbx))))); clear hb2 hr1 hr2 ho1 ho2 hbx))
        all_goals
          have hw2 : X.heap.size ≤ w2.heap.size := HR.out.2.2.2.2.2.size
          first
          | (generalize hW : World.setCell _ _ _ = wO
             have oO : wO.heap[X.heap.size]? = some (.cells #[.int .i64 (onI H.ms H.ds av av), .int .i64 0, .bool (onA H.ms H.ds av), .int .i64 (onI H.ms H.ds av (gK (onX H.ms av))), .int .i64 (onI H.ms H.ds av (gT (onX H.ms av))), .int .i64 (onI H.ms H.ds av (gN (onX H.ms av))), .slice y1 (onK H.ms H.ds av).length d1, .slice y2 (onV H.ms H.ds av).length d2] 104 (0, 0)) := by rw [← hW]; exact (set8_at OZ.out (.int .i64 (onI H.ms H.ds av av)) (.int .i64 0) (.bool (onA H.ms H.ds av)) (.int .i64 (onI H.ms H.ds av (gK (onX H.ms av)))) (.int .i64 (onI H.ms H.ds av (gT (onX H.ms av)))) (.int .i64 (onI H.ms H.ds av (gN (onX H.ms av)))) (.slice y1 (onK H.ms H.ds av).length d1) (.slice y2 (onV H.ms H.ds av).length d2)).1
             have hm : Moved (fun q => q = X.heap.size) w2 wO := by rw [← hW]; exact Moved.of_grown (set8_at OZ.out (.int .i64 (onI H.ms H.ds av av)) (.int .i64 0) (.bool (onA H.ms H.ds av)) (.int .i64 (onI H.ms H.ds av (gK (onX H.ms av)))) (.int .i64 (onI H.ms H.ds av (gT (onX H.ms av)))) (.int .i64 (onI H.ms H.ds av (gN (onX H.ms av)))) (.slice y1 (onK H.ms H.ds av).length d1) (.slice y2 (onV H.ms H.ds av).length d2)).2 (fun k e => by cases e; rfl)
             obtain ⟨b, hb⟩ : ∃ b, X.heap.size = b := ⟨_, rfl⟩
             have hbl : X.heap.size ≤ b := by omega
             have hn1 : onK H.ms H.ds av = [] ∨ ∀ p, y1 = some p → ¬ p.block = b := HR.out.2.2.2.1.imp_right (fun h p e h2 => by have := h p e; simp at this; omega)
             have hn2 : onV H.ms H.ds av = [] ∨ ∀ p, y2 = some p → ¬ p.block = b := HR.out.2.2.2.2.1.imp_right (fun h p e h2 => by have := h p e; simp at this; omega)
             rw [hb] at oO hm ⊢)
          | (generalize hW : World.alloc _ _ = wO
             have oO : wO.heap[w2.heap.size]? = some (.cells #[.int .i64 (onI H.ms H.ds av av), .int .i64 0, .bool (onA H.ms H.ds av), .int .i64 (onI H.ms H.ds av (gK (onX H.ms av))), .int .i64 (onI H.ms H.ds av (gT (onX H.ms av))), .int .i64 (onI H.ms H.ds av (gN (onX H.ms av))), .slice y1 (onK H.ms H.ds av).length d1, .slice y2 (onV H.ms H.ds av).length d2] 104 (0, 0)) := by rw [← hW]; exact heap_alloc_eq _ _
             have hm : Moved (fun q => q = w2.heap.size) w2 wO := by rw [← hW]; exact Moved.of_below ((Below.refl _ _).alloc (Nat.le_refl _) _) _
             obtain ⟨b, hb⟩ : ∃ b, w2.heap.size = b := ⟨_, rfl⟩
             have hbl : X.heap.size ≤ b := by omega
             have hn1 : onK H.ms H.ds av = [] ∨ ∀ p, y1 = some p → ¬ p.block = b := HR.out.2.1.lt_or.imp_right (fun h p e => by have := h p e; omega)
             have hn2 : onV H.ms H.ds av = [] ∨ ∀ p, y2 = some p → ¬ p.block = b := HR.out.2.2.1.lt_or.imp_right (fun h p e => by have := h p e; omega)
             rw [hb] at oO hm ⊢)
          have hbO : Below X.heap.size X wO := below_moved HR.out.2.2.2.2.2 hm hw2 (fun q e => by rw [e]; exact hbl)
          have hO1 := reads_kept HR.out.2.1 hm hn1
          have hO2 := reads_kept HR.out.2.2.1 hm hn2
          have hy1 : onK H.ms H.ds av = [] ∨ ∀ p, y1 = some p → wr.heap.size < p.block := HR.out.2.2.2.1.imp_right (fun h p e => by have h1 := h p e; have h2 := heap_lt HXX.out.2.1; simp at h1; omega)
          have hy2 : onV H.ms H.ds av = [] ∨ ∀ p, y2 = some p → wr.heap.size < p.block := HR.out.2.2.2.2.1.imp_right (fun h p e => by have h1 := h p e; have h2 := heap_lt HXX.out.2.1; simp at h1; omega)
          have hBiO := heap_below hbO HXX.out.2.2.2.2 (heap_lt HXX.out.2.2.2.2)
          have bi := heap_cell hBiO 0
          have x0 := heap_cell oO 0
          have x1 := heap_cell oO 1
          have x2 := heap_cell oO 2
          have x3 := heap_cell oO 3
          have x4 := heap_cell oO 4
          have x5 := heap_cell oO 5
          have x6 := heap_cell oO 6
          have x7 := heap_cell oO 7
          have t1 := heap_free oO 1
          simp at bi x0 x1 x2 x3 x4 x5 x6 x7
          have hms : Moved (fun k => k = b) wO (wO.setCell ⟨b, 1, none⟩ (.int .i64 id)) := Moved.of_set (S := fun k => k = b) wO b 1 _ rfl
          have hrX := heap_lt HXX.out.2.1
          have hbF : Below wr.heap.size wr (wO.setCell ⟨b, 1, none⟩ (.int .i64 id)) := below_moved (HXX.out.1.trans (hbO.mono (by omega))) hms (by have := hbO.size; omega) (fun q e => by omega)
          have hR1 := reads_kept hO1 hms hn1
          have hR2 := reads_kept hO2 hms hn2
          have hSl := (HJ.out.1 _).lt HP1.out.2.2.1
          have hE : ObjE B H O0 O1 id p #[objV H av id y1 y2 d1 d2] (wO.setCell ⟨b, 1, none⟩ (.int .i64 id)) S' := by
            unfold ObjE
            rw [HP1.out.2.1]
            refine ⟨⟨SH, HP1.out.2.2.2.2.2.later hbF, fun k hk hs => ?_⟩, y1, y2, d1, d2, rfl, hR1, hR2, ?_, ?_⟩
            · rcases HP1.out.2.2.2.1.s k hs with h | h
              · exact HP.out.2.2.2.2.2.1 k hk h
              · have := (HeapSt.ok B H O0 O1).lt HP.out.2.2.2.2.1 k hk; omega
            · rcases hy1 with h | h
              · exact .inl h
              · rcases hR1.lt_or with h2 | h2
                · exact .inl h2
                · exact .inr fun q e => ⟨fun hs => by have := hSl _ hs; have := h q e; omega, h2 q e⟩
            · rcases hy2 with h | h
              · exact .inl h
              · rcases hR2.lt_or with h2 | h2
                · exact .inl h2
                · exact .inr fun q e => ⟨fun hs => by have := hSl _ hs; have := h q e; omega, h2 q e⟩
          have htk : A.ts.take (j + 1) = A.ts.take j ++ [p] := by rw [List.take_add_one, HP1.out.1]; rfl
          have hpart : A.ts.take j ++ [p] <+: A.ts := by rw [← htk]; exact List.take_prefix _ _
          have hy := yield_any (m := 2) (HY.out (A.ts.take j) p #[objV H av id y1 y2 d1 d2] _ S' hpart hE ((HJ.out.1 _).below HP1.out.2.2.1 hbF))
          obtain ⟨fn, tmps, assign, body, hy, hR⟩ := hy
          have HF := Lib.hid (And.intro hbF htk)
          clear hbO hO1 hO2 hy1 hy2 hBiO oO hn1 hn2 hm hbl hw2 hms hR1 hR2 hSl hE htk hpart hbF
          gi_wp2
          refine RoundIn.mono (R := YieldEnd S' (J (A.ts.take j ++ [p])) Jx (wO.setCell ⟨b, 1, none⟩ (.int .i64 id))) hR ?_
          rintro e W3 ⟨S3, hg3, (⟨rfl, hJ3⟩ | ⟨rfl, hJx3⟩)⟩
          · have HN : Hid (∃ S', J (A.ts.take (j + 1)) W3 S' ∧ Grows S S' w1 W3) := Lib.hid ⟨S3, by rw [HF.out.2]; exact hJ3, HP1.out.2.2.2.1.trans (Grows.after_below HF.out.1 hg3)⟩
            clear hg3 hJ3
            gi_wp2
            go_roundw
            case rel => exact ⟨j + 1, by omega, by go_num, HN⟩
            case measure => simp [intOf]; omega
          · have HN := Lib.hid (And.intro (Grows.after_below HZ.out.2.1 (HP1.out.2.2.2.1.trans (Grows.after_below HF.out.1 hg3))) hJx3)
            clear hg3 hJx3
            gi_wp2
            refine bodyPost_ret (results_none rfl _ _ _) rfl ?_
            exact ⟨⟨_, rfl⟩, S3, HN.out.1, .inr HN.out.2⟩
      · obtain rfl : j = A.ts.length := by omega
        gi_wp2
        refine bodyPost_ret (results_none rfl _ _ _) rfl ?_
        obtain ⟨S', j1, j2⟩ := HV.out
        rw [List.take_length] at j1
        exact ⟨⟨_, rfl⟩, S', Grows.after_below HZ.out.2.1 j2, .inl ⟨_, rfl, j1⟩⟩
end Go.Proofs.YtcenagpkfimkbaaGreatDoor
namespace Go.Proofs.YtcenagpkfimkbaaGreatDoor
open Go Go.RowKit Go.Shelf

attribute [local go_sem] Oper.semAt_some
@[local go_sem] theorem wide_fnOG (f : FuncId) : Fence.wide.fn f = True := rfl

def objGv (H : HM) (a : Int) (y1 y2 : Option Addr) (k : Nat) : Prop := (∃ q, y1 = some q ∧ onK H.ms H.ds a ≠ [] ∧ q.block = k) ∨ (∃ q, y2 = some q ∧ onV H.ms H.ds a ≠ [] ∧ q.block = k)
def ObjG (Bd : Nat) (B : HB) (H : HM) (O0 O1 : Obj) (id : Int) (p : Int × Int) (args : Array Value) (W : World) (S G : Nat → Prop) : Prop :=
  ObjE B H O0 O1 id p args W S ∧ (∀ k, G k → Bd ≤ k) ∧ ∃ y1 y2 c1 c2, args = #[objV H (p.1 + 1) id y1 y2 c1 c2] ∧ G = objGv H (p.1 + 1) y1 y2
theorem objG_new {Bd : Nat} {B : HB} {H : HM} {O0 O1 : Obj} {id : Int} : ∀ x args W S G, ObjG Bd B H O0 O1 id x args W S G → ∀ k, G k → ¬ S k ∧ k < W.heap.size := by
  rintro x args W S G ⟨⟨_, z1, z2, e1, e2, hz, _, _, h1, h2⟩, _, y1, y2, c1, c2, rfl, rfl⟩ k hk
  simp [objV] at hz
  obtain ⟨⟨rfl, _⟩, rfl, _⟩ := hz
  rcases hk with ⟨q, e, hne, rfl⟩ | ⟨q, e, hne, rfl⟩
  · exact h1.resolve_left hne q e
  · exact h2.resolve_left hne q e
theorem grows_given {S S' S3 G : Nat → Prop} {w1 wr WO W3 : World} (h1 : Grows S S' w1 wr) (hb : Below wr.heap.size wr WO) (hG : ∀ k, G k → wr.heap.size ≤ k) (h3 : Grows (fun k => S' k ∨ G k) S3 WO W3) : Grows S S3 w1 W3 := by
  have s1 := h1.m.size
  have s2 := hb.size
  refine ⟨(h1.m.trans (Moved.of_below hb S) (fun q e => .inl e)).trans h3.m (fun q e => ?_), fun k hk => ?_⟩
  · rcases e with e | e
    · rcases h1.s q e with h | h
      · exact .inl h
      · exact .inr h
    · exact .inr (by have := hG q e; omega)
  · rcases h3.s k hk with (h | h) | h
    · rcases h1.s k h with h | h
      · exact .inl h
      · exact .inr h
    · exact .inr (by have := hG k h; omega)
    · exact .inr (by omega)

set_option maxRecDepth 100000 in
set_option maxHeartbeats 4000000 in
theorem objs_handsG (Bd : Nat) (B : HB) (H : HM) (O0 O1 : Obj) (hk : ItOk H) {id : Int} {A : AR} (hA : lk H.ar id = some A) (Bh Bi : Nat) :
    HandsG Tryz.prog 86 #[.pointer (some ⟨Bh, 0, none⟩), .pointer (some ⟨Bi, 0, none⟩)] (ObjG Bd B H O0 O1 id) (fun pre => pre <+: A.ts) (fun xs => xs = A.ts) (fun W S => ObjPre B H O0 O1 Bh Bi id W S ∧ Bd ≤ W.heap.size) := by
  intro l J Jx hJ hJx hY W S h0 hP
  obtain ⟨⟨hBh, hBi, n1, n2, SH, hH, hdis⟩, hBd⟩ := hP
  have hlt := (hJ []).lt h0
  obtain ⟨i1, i2, htl, htr⟩ := hk.ar id A hA
  obtain ⟨vr, vt, har⟩ := hH.arena i1 hA
  have b0 := heap_cell hBh 0
  have b1 := heap_cell hBi 0
  have c6 := heap_cell hH.blk 6
  simp at b0 b1 c6
  have hlk := fun (w' : World) (hb : Below W.heap.size W w') => arMap_look (w := w') (hH.later hb) hA (by omega) i2
  have hlk1 := hlk W.drew ⟨rfl, rfl, rfl, by simp, fun _ _ => rfl⟩
  have HLK := Lib.hid hlk
  have hTh := fun n => arThings_any (w := W.drewN n) (har.later (show Below W.heap.size W (W.drewN n) from ⟨rfl, rfl, rfl, by simp, fun _ _ => rfl⟩)) (by omega)
  refine (callsIn_wide (n := 3)).1 ?_
  refine callsIn_of_wp Tryz.func86 rfl trivial ?_ rfl
  simp only [Tryz.ntmps86, List.size_toArray, List.length_cons, List.length_nil, Nat.reduceAdd, Nat.reduceSub, Array.replicate_succ, Array.replicate_zero, List.push_toArray, List.append_toArray, List.nil_append, List.cons_append]
  have HY := Lib.hid hY
  have HP := Lib.hid (And.intro hBh (And.intro hBi (And.intro n1 (And.intro n2 (And.intro hH (And.intro hdis hlt))))))
  have HJ := Lib.hid (And.intro hJ (And.intro hJx h0))
  have HT := Lib.hid (And.intro hTh (And.intro hk htr))
  clear hY hBh hBi n1 n2 hH hdis hJ hJx h0 hTh hk htr har hlt hA hlk
  gi_wp2
  refine wpIn_wide.2 ?_
  go_region_held3 (fun w' => w'.cell? ⟨Bh, 0, none⟩ = some (.pointer (some ⟨B.hb, 0, none⟩)) ∧ w'.cell? ⟨Bi, 0, none⟩ = some (.int .i64 id) ∧ w'.cell? ⟨B.hb, 6, none⟩ = some (.map (some B.am)) ∧ (Instr.lookup 112 (.map (some B.am)) (.int .i64 id) false).run Tryz.prog w' = .ok (.pointer (some ⟨A.ab, 0, none⟩)) w') (first | (with_reducible exact HZ.out.1) | go_keep) ((go_at_call 87; refine (HT.out.1 _).mono ?_; rintro e w1 ⟨v, rfl, hb1, ho1, hn1⟩; have HZ := Lib.hid (objK_ b0 b1 c6 HLK.out hb1 ho1 hn1); obtain ⟨a, c, rfl, _⟩ := ho1.shape; clear hb1 ho1 hn1))
  all_goals
    have hbz := HZ.out.2.1.size
    clear hlk1 b0 b1 c6
    gi_wp2
    gi_loopw [16] (fun i wr => ∃ j : Nat, j ≤ A.ts.length ∧ i = .int .i64 j ∧ Hid (∃ S', J (A.ts.take j) wr S' ∧ Grows S S' w1 wr)) (fun i _ => A.ts.length - (intOf i).toNat)
    case atStart => exact ⟨0, Nat.zero_le _, rfl, Lib.hid ⟨S, by rw [List.take_zero]; exact (HJ.out.1 []).below HJ.out.2.2 HZ.out.2.1, Grows.refl _ _⟩⟩
    case round =>
      obtain ⟨j, hj, rfl, HV⟩ := hrel
      by_cases hlt : j < A.ts.length
      · obtain ⟨S', j1, j2⟩ := HV.out
        obtain ⟨p, hpj⟩ : ∃ p, A.ts[j]? = some p := ⟨_, List.getElem?_eq_getElem hlt⟩
        have hpm := HT.out.2.2 p (List.mem_of_getElem? hpj)
        have hrd := HZ.out.2.2.1.reads
        rcases hrd with hrd | ⟨rb, off, rfl, hrc⟩
        · rw [hrd] at hlt; simp at hlt
        have hrk := hrc j hlt
        rw [List.getD_eq_getElem?_getD, hpj] at hrk
        simp only [Option.getD_some] at hrk
        have hSb : ∀ k, W.heap.size ≤ k → ¬ S k := fun k h e => by have := HP.out.2.2.2.2.2.2 k e; omega
        have hrb : W.heap.size ≤ rb := HZ.out.2.2.2 rb rfl
        have q0 := j2.m.cell hrk.1 (hSb _ hrb)
        have q1 := j2.m.cell hrk.2 (hSb _ hrb)
        have hHr := (HeapSt.ok B H O0 O1).moved (HP.out.2.2.2.2.1.later HZ.out.2.1) j2.m HP.out.2.2.2.2.2.1
        have hBh := j2.m.heap (heap_below HZ.out.2.1 HP.out.1 (heap_lt HP.out.1)) HP.out.2.2.1
        have hBi := j2.m.heap (heap_below HZ.out.2.1 HP.out.2.1 (heap_lt HP.out.2.1)) HP.out.2.2.2.1
        obtain ⟨X, hX⟩ : ∃ X, wr.alloc (.cells #[.int .i64 p.1, .int .i64 p.2] 160) = X := ⟨_, rfl⟩
        have hbX : Below wr.heap.size wr X := by rw [← hX]; exact (Below.refl _ _).alloc (Nat.le_refl _) _
        have oX : X.heap[wr.heap.size]? = some (.cells #[.int .i64 p.1, .int .i64 p.2] 160 (0, 0)) := by rw [← hX]; exact heap_alloc_eq _ _
        have hXh := hHr.later hbX
        have hBhX := heap_below hbX hBh (heap_lt hBh)
        have hBiX := heap_below hbX hBi (heap_lt hBi)
        have c0 := heap_cell hXh.blk 0
        have c3 := heap_cell hXh.blk 3
        have b0 := heap_cell hBhX 0
        have b1 := heap_cell hBiX 0
        have r0 := heap_cell oX 0
        simp at c0 c3 b0 b1 r0
        obtain ⟨av, hav⟩ : ∃ av, p.1 + 1 = av := ⟨_, rfl⟩
        have yw : IntKind.i64.wrap (p.1 + 1) = av := by rw [hav, IntKind.wrap_i64]; omega
        have HP1 := Lib.hid (And.intro hpj (And.intro hav (And.intro j1 (And.intro j2 (And.intro hSb hHr)))))
        have HMm := fun w' (hb : Below X.heap.size X w') => pMem_any (w := w') (hXh.later hb).pages
        have HOn := fun w' (hb : Below X.heap.size X w') => (One_any B.mb B.mw H.ms av B.ta H.ds B.tc w' (hXh.later hb).tabs.1 (hXh.later hb).pages.mem (hXh.later hb).types HT.out.2.1.dd (by have := HT.out.2.1.dl; omega) HT.out.2.1.ms (by omega)).mono (R' := fun e w2 => OneRet (fun _ => False) H.ms H.ds av w' e w2 ∧ Below X.heap.size X w2 ∧ (w2.cell? ⟨Bh, 0, none⟩ = some (.pointer (some ⟨B.hb, 0, none⟩)) ∧ w2.cell? ⟨B.hb, 0, none⟩ = some (.pointer (some ⟨B.pb, 0, none⟩)) ∧ w2.cell? ⟨B.hb, 3, none⟩ = some (.slice B.ta H.ds.length B.tc) ∧ w2.cell? ⟨wr.heap.size, 0, none⟩ = some (.int .i64 p.1)) ∧ (X.heap.size < w'.heap.size → w2.heap[X.heap.size]? = w'.heap[X.heap.size]?))
          (fun e w2 ho => have hb2 : Below X.heap.size X w2 := (by obtain ⟨_, _, _, _, _, h, _⟩ := ho; exact hb.trans (h.mono hb.size)); ⟨ho, hb2, ⟨(hb2.cell (p := ⟨Bh, 0, none⟩) (cell_lt b0)).trans b0, (hb2.cell (p := ⟨B.hb, 0, none⟩) (cell_lt c0)).trans c0, (hb2.cell (p := ⟨B.hb, 3, none⟩) (cell_lt c3)).trans c3, (hb2.cell (p := ⟨wr.heap.size, 0, none⟩) (cell_lt r0)).trans r0⟩, fun h1 => by obtain ⟨_, _, _, _, _, h, _⟩ := ho; exact h.block _ h1⟩)
        have HMO := Lib.hid (And.intro HMm HOn)
        have HXX := Lib.hid (And.intro hbX (And.intro oX (And.intro hXh (And.intro hBhX hBiX))))
        have hne1 : ¬ Bh = X.heap.size := by have h1 := heap_lt hBhX; omega
        have hne2 : ¬ B.hb = X.heap.size := by have h1 := heap_lt hXh.blk; omega
        have hne3 : ¬ wr.heap.size = X.heap.size := by have h1 := heap_lt oX; omega
        clear hXh hBhX hBiX oX hbX HMm HOn hBh hBi hHr hSb hpj hav hrk hrc j1 j2 hpm hrb b1
        gi_wp2_with fail
        try rw [hX]
        gi_wp2_with fail
        refine wpIn_wide.2 ?_
        go_region_held3 (fun w' => w'.cell? ⟨Bh, 0, none⟩ = some (.pointer (some ⟨B.hb, 0, none⟩)) ∧ w'.cell? ⟨B.hb, 0, none⟩ = some (.pointer (some ⟨B.pb, 0, none⟩)) ∧ w'.cell? ⟨B.hb, 3, none⟩ = some (.slice B.ta H.ds.length B.tc) ∧ w'.cell? ⟨wr.heap.size, 0, none⟩ = some (.int .i64 p.1)) (first | (with_reducible exact hq) | (with_reducible exact ⟨set8_cell _ _ _ _ _ _ _ _ hne1 hq.1, set8_cell _ _ _ _ _ _ _ _ hne2 hq.2.1, set8_cell _ _ _ _ _ _ _ _ hne2 hq.2.2.1, set8_cell _ _ _ _ _ _ _ _ hne3 hq.2.2.2⟩) | go_keep) (first | (go_at_call 89; refine (HMO.out.1 _ (by first | exact ⟨rfl, rfl, rfl, by simp, fun _ _ => rfl⟩ | exact (Below.refl _ _).alloc (Nat.le_refl _) _ | exact (show Below X.heap.size X X.drew from ⟨rfl, rfl, rfl, by simp, fun _ _ => rfl⟩).alloc (by simp) _)).mono ?_; rintro e w' ⟨rfl, rfl⟩) | (go_at_call 88; refine (HMO.out.2 _ (by first | exact ⟨rfl, rfl, rfl, by simp, fun _ _ => rfl⟩ | exact (Below.refl _ _).alloc (Nat.le_refl _) _ | exact (show Below X.heap.size X X.drew from ⟨rfl, rfl, rfl, by simp, fun _ _ => rfl⟩).alloc (by simp) _)).mono ?_; rintro e w2 ⟨⟨y1, y2, d1, d2, rfl, hb2, hr1, hr2, ho1, ho2⟩, hbx, hq, hz⟩; (first | (have oz := (hz (by simp)).trans (heap_alloc_eq X.drew (.cells #[.int .i64 0, .int .i64 0, .bool false, .int .i64 0, .int .i64 0, .int .i64 0, .slice none 0 0, .slice none 0 0] 104)); have z0 := heap_cell oz 0; have e0 := heap_free oz 0; have z1 := heap_cell oz 1; have e1 := heap_free oz 1; have z2 := heap_cell oz 2; have e2 := heap_free oz 2; have z3 := heap_cell oz 3; have e3 := heap_free oz 3; have z4 := heap_cell oz 4; have e4 := heap_free oz 4; have z5 := heap_cell oz 5; have e5 := heap_free oz 5; have z6 := heap_cell oz 6; have e6 := heap_free oz 6; have z7 := heap_cell oz 7; have e7 := heap_free oz 7; simp at z0 z1 z2 z3 z4 z5 z6 z7; have OZ := Lib.hid oz; clear oz) | skip); clear hz; have HR := Lib.hid (And.intro hb2 (And.intro hr1 (And.intro hr2 (And.intro ho1 (And.intro ho2 hbx))))); clear hb2 hr1 hr2 ho1 ho2 hbx))
        all_goals
          have hw2 : X.heap.size ≤ w2.heap.size := HR.out.2.2.2.2.2.size
          first
          | (generalize hW : World.setCell _ _ _ = wO
             have oO : wO.heap[X.heap.size]? = some (.cells #[.int .i64 (onI H.ms H.ds av av), .int .i64 0, .bool (onA H.ms H.ds av), .int .i64 (onI H.ms H.ds av (gK (onX H.ms av))), .int .i64 (onI H.ms H.ds av (gT (onX H.ms av))), .int .i64 (onI H.ms H.ds av (gN (onX H.ms av))), .slice y1 (onK H.ms H.ds av).length d1, .slice y2 (onV H.ms H.ds av).length d2] 104 (0, 0)) := by rw [← hW]; exact (set8_at OZ.out (.int .i64 (onI H.ms H.ds av av)) (.int .i64 0) (.bool (onA H.ms H.ds av)) (.int .i64 (onI H.ms H.ds av (gK (onX H.ms av)))) (.int .i64 (onI H.ms H.ds av (gT (onX H.ms av)))) (.int .i64 (onI H.ms H.ds av (gN (onX H.ms av)))) (.slice y1 (onK H.ms H.ds av).length d1) (.slice y2 (onV H.ms H.ds av).length d2)).1
             have hm : Moved (fun q => q = X.heap.size) w2 wO := by rw [← hW]; exact Moved.of_grown (set8_at OZ.out (.int .i64 (onI H.ms H.ds av av)) (.int .i64 0) (.bool (onA H.ms H.ds av)) (.int .i64 (onI H.ms H.ds av (gK (onX H.ms av)))) (.int .i64 (onI H.ms H.ds av (gT (onX H.ms av)))) (.int .i64 (onI H.ms H.ds av (gN (onX H.ms av)))) (.slice y1 (onK H.ms H.ds av).length d1) (.slice y2 (onV H.ms H.ds av).length d2)).2 (fun k e => by cases e; rfl)
             obtain ⟨b, hb⟩ : ∃ b, X.heap.size = b := ⟨_, rfl⟩
             have hbl : X.heap.size ≤ b := by omega
             have hn1 : onK H.ms H.ds av = [] ∨ ∀ p, y1 = some p → ¬ p.block = b := HR.out.2.2.2.1.imp_right (fun h p e h2 => by have := h p e; simp at this; omega)
             have hn2 : onV H.ms H.ds av = [] ∨ ∀ p, y2 = some p → ¬ p.block = b := HR.out.2.2.2.2.1.imp_right (fun h p e h2 => by have := h p e; simp at this; omega)
             rw [hb] at oO hm ⊢)
          | (generalize hW : World.alloc _ _ = wO
             have oO : wO.heap[w2.heap.size]? = some (.cells #[.int .i64 (onI H.ms H.ds av av), .int .i64 0, .bool (onA H.ms H.ds av), .int .i64 (onI H.ms H.ds av (gK (onX H.ms av))), .int .i64 (onI H.ms H.ds av (gT (onX H.ms av))), .int .i64 (onI H.ms H.ds av (gN (onX H.ms av))), .slice y1 (onK H.ms H.ds av).length d1, .slice y2 (onV H.ms H.ds av).length d2] 104 (0, 0)) := by rw [← hW]; exact heap_alloc_eq _ _
             have hm : Moved (fun q => q = w2.heap.size) w2 wO := by rw [← hW]; exact Moved.of_below ((Below.refl _ _).alloc (Nat.le_refl _) _) _
             obtain ⟨b, hb⟩ : ∃ b, w2.heap.size = b := ⟨_, rfl⟩
             have hbl : X.heap.size ≤ b := by omega
             have hn1 : onK H.ms H.ds av = [] ∨ ∀ p, y1 = some p → ¬ p.block = b := HR.out.2.1.lt_or.imp_right (fun h p e => by have := h p e; omega)
             have hn2 : onV H.ms H.ds av = [] ∨ ∀ p, y2 = some p → ¬ p.block = b := HR.out.2.2.1.lt_or.imp_right (fun h p e => by have := h p e; omega)
             rw [hb] at oO hm ⊢)
          have hbO : Below X.heap.size X wO := below_moved HR.out.2.2.2.2.2 hm hw2 (fun q e => by rw [e]; exact hbl)
          have hO1 := reads_kept HR.out.2.1 hm hn1
          have hO2 := reads_kept HR.out.2.2.1 hm hn2
          have hy1 : onK H.ms H.ds av = [] ∨ ∀ p, y1 = some p → wr.heap.size < p.block := HR.out.2.2.2.1.imp_right (fun h p e => by have h1 := h p e; have h2 := heap_lt HXX.out.2.1; simp at h1; omega)
          have hy2 : onV H.ms H.ds av = [] ∨ ∀ p, y2 = some p → wr.heap.size < p.block := HR.out.2.2.2.2.1.imp_right (fun h p e => by have h1 := h p e; have h2 := heap_lt HXX.out.2.1; simp at h1; omega)
          have hBiO := heap_below hbO HXX.out.2.2.2.2 (heap_lt HXX.out.2.2.2.2)
          have bi := heap_cell hBiO 0
          have x0 := heap_cell oO 0
          have x1 := heap_cell oO 1
          have x2 := heap_cell oO 2
          have x3 := heap_cell oO 3
          have x4 := heap_cell oO 4
          have x5 := heap_cell oO 5
          have x6 := heap_cell oO 6
          have x7 := heap_cell oO 7
          have t1 := heap_free oO 1
          simp at bi x0 x1 x2 x3 x4 x5 x6 x7
          have hms : Moved (fun k => k = b) wO (wO.setCell ⟨b, 1, none⟩ (.int .i64 id)) := Moved.of_set (S := fun k => k = b) wO b 1 _ rfl
          have hrX := heap_lt HXX.out.2.1
          have hbF : Below wr.heap.size wr (wO.setCell ⟨b, 1, none⟩ (.int .i64 id)) := below_moved (HXX.out.1.trans (hbO.mono (by omega))) hms (by have := hbO.size; omega) (fun q e => by omega)
          have hR1 := reads_kept hO1 hms hn1
          have hR2 := reads_kept hO2 hms hn2
          have hSl := (HJ.out.1 _).lt HP1.out.2.2.1
          have hE : ObjE B H O0 O1 id p #[objV H av id y1 y2 d1 d2] (wO.setCell ⟨b, 1, none⟩ (.int .i64 id)) S' := by
            unfold ObjE
            rw [HP1.out.2.1]
            refine ⟨⟨SH, HP1.out.2.2.2.2.2.later hbF, fun k hk hs => ?_⟩, y1, y2, d1, d2, rfl, hR1, hR2, ?_, ?_⟩
            · rcases HP1.out.2.2.2.1.s k hs with h | h
              · exact HP.out.2.2.2.2.2.1 k hk h
              · have := (HeapSt.ok B H O0 O1).lt HP.out.2.2.2.2.1 k hk; omega
            · rcases hy1 with h | h
              · exact .inl h
              · rcases hR1.lt_or with h2 | h2
                · exact .inl h2
                · exact .inr fun q e => ⟨fun hs => by have := hSl _ hs; have := h q e; omega, h2 q e⟩
            · rcases hy2 with h | h
              · exact .inl h
              · rcases hR2.lt_or with h2 | h2
                · exact .inl h2
                · exact .inr fun q e => ⟨fun hs => by have := hSl _ hs; have := h q e; omega, h2 q e⟩
          have htk : A.ts.take (j + 1) = A.ts.take j ++ [p] := by rw [List.take_add_one, HP1.out.1]; rfl
          have hpart : A.ts.take j ++ [p] <+: A.ts := by rw [← htk]; exact List.take_prefix _ _
          have hGf : ∀ k, objGv H av y1 y2 k → wr.heap.size ≤ k := fun k hk => by
            rcases hk with ⟨q, e, hne, rfl⟩ | ⟨q, e, hne, rfl⟩
            · exact Nat.le_of_lt (hy1.resolve_left hne q e)
            · exact Nat.le_of_lt (hy2.resolve_left hne q e)
          have hGE : ObjG Bd B H O0 O1 id p #[objV H av id y1 y2 d1 d2] (wO.setCell ⟨b, 1, none⟩ (.int .i64 id)) S' (objGv H av y1 y2) := ⟨hE, fun k hk => by have e1 := hGf k hk; have e2 := HP1.out.2.2.2.1.m.size; have e3 := HZ.out.2.1.size; omega, y1, y2, d1, d2, by rw [HP1.out.2.1], by rw [HP1.out.2.1]⟩
          have hy := yield_any (m := 2) (HY.out (A.ts.take j) p #[objV H av id y1 y2 d1 d2] _ S' _ hpart hGE ((HJ.out.1 _).below HP1.out.2.2.1 hbF))
          obtain ⟨fn, tmps, assign, body, hy, hR⟩ := hy
          have HF := Lib.hid (And.intro hbF (And.intro htk hGf))
          clear hGE hGf hbO hO1 hO2 hy1 hy2 hBiO oO hn1 hn2 hm hbl hw2 hms hR1 hR2 hSl hE htk hpart hbF
          gi_wp2
          refine RoundIn.mono (R := YieldEnd (fun k => S' k ∨ objGv H av y1 y2 k) (J (A.ts.take j ++ [p])) Jx (wO.setCell ⟨b, 1, none⟩ (.int .i64 id))) hR ?_
          rintro e W3 ⟨S3, hg3', hend⟩
          have hg3 := grows_given HP1.out.2.2.2.1 HF.out.1 HF.out.2.2 hg3'
          clear hg3'
          rcases hend with ⟨rfl, hJ3⟩ | ⟨rfl, hJx3⟩
          · have HN : Hid (∃ S', J (A.ts.take (j + 1)) W3 S' ∧ Grows S S' w1 W3) := Lib.hid ⟨S3, by rw [HF.out.2.1]; exact hJ3, hg3⟩
            clear hg3 hJ3
            gi_wp2
            go_roundw
            case rel => exact ⟨j + 1, by omega, by go_num, HN⟩
            case measure => simp [intOf]; omega
          · have HN := Lib.hid (And.intro (Grows.after_below HZ.out.2.1 hg3) hJx3)
            clear hg3 hJx3
            gi_wp2
            refine bodyPost_ret (results_none rfl _ _ _) rfl ?_
            exact ⟨⟨_, rfl⟩, S3, HN.out.1, .inr HN.out.2⟩
      · obtain rfl : j = A.ts.length := by omega
        gi_wp2
        refine bodyPost_ret (results_none rfl _ _ _) rfl ?_
        obtain ⟨S', j1, j2⟩ := HV.out
        rw [List.take_length] at j1
        exact ⟨⟨_, rfl⟩, S', Grows.after_below HZ.out.2.1 j2, .inl ⟨_, rfl, j1⟩⟩
end Go.Proofs.YtcenagpkfimkbaaGreatDoor
namespace Go.Proofs.YtcenagpkfimkbaaGreatDoor
open Go Go.RowKit Go.Shelf

attribute [local go_sem] Oper.semAt_some
@[local go_sem] theorem wide_fnOA (f : FuncId) : Fence.wide.fn f = True := rfl

theorem info_obj : (Tryz.prog.info? 104).map (fun i => (i.zero.map (fun z => z.cells.size), i.size, i.bytes)) = some (some 8, 8, 96) := by kernel_rfl
theorem info_objO : ∃ i0 z0, Tryz.prog.info? 104 = some i0 ∧ i0.zero = some z0 ∧ z0.cells.size = 8 ∧ i0.size = 8 ∧ i0.bytes = 96 := by
  have hi := info_obj
  cases hc : Tryz.prog.info? 104 with
  | none => rw [hc] at hi; cases hi
  | some i0 =>
    rw [hc] at hi
    simp only [Option.map_some, Option.some.injEq, Prod.mk.injEq] at hi
    cases hz : i0.zero with
    | none => rw [hz] at hi; simp at hi
    | some z0 =>
      rw [hz] at hi
      simp only [Option.map_some, Option.some.injEq] at hi
      exact ⟨i0, z0, rfl, hz, hi.1, hi.2.1, hi.2.2⟩
theorem cells_newO (w : World) (cs : List Value) (t : TypeId) : ∀ j u, cs[j]? = some u → (w.alloc (.cells cs.toArray t)).cell? ((⟨w.heap.size, 0, none⟩ : Addr).add j) = some u := by
  intro j u h
  rw [addr_add_none, Nat.zero_add, heap_cell (heap_alloc_eq _ _)]
  simpa using h

theorem owns_neO {w : World} {B : Nat} {e : TypeId} {size : Nat} {v : Value} {n : Nat} {xs : List Value} (h : w.ownsRow B e size v n xs) {i : Nat} {o : Obj} (hi : w.heap[i]? = some o) (hne : ∀ cur fr, o ≠ .cells cur e fr) : v.ownBlock ≠ some i := by
  intro e
  rcases h.2 with ⟨rfl, _⟩ | ⟨g, cap, cur, rfl, _, hgb, _⟩
  · simp [Value.ownBlock] at e
  · obtain rfl : g = i := by simpa [Value.ownBlock] using e
    rw [hgb] at hi
    exact hne _ _ (Option.some.inj hi).symm

def objCs (ms : List Int) (ds : List (List Int)) (a id : Int) (y1 y2 : Option Addr) (c1 c2 : Nat) : List Value :=
  [.int .i64 (onI ms ds a a), .int .i64 id, .bool (onA ms ds a), .int .i64 (onI ms ds a (gK (onX ms a))), .int .i64 (onI ms ds a (gT (onX ms a))), .int .i64 (onI ms ds a (gN (onX ms a))), .slice y1 (onK ms ds a).length c1, .slice y2 (onV ms ds a).length c2]
def ObjRows (ms : List Int) (ds : List (List Int)) (l : List (Int × Int)) (flat : List Value) (S T : Nat → Prop) (W : World) : Prop :=
  ∀ j a id, l[j]? = some (a, id) → ∃ y1 y2 c1 c2, (flat.drop (j * 8)).take 8 = objCs ms ds a id y1 y2 c1 c2 ∧ Reads .i64 W y1 (onK ms ds a) ∧ Reads .u64 W y2 (onV ms ds a) ∧
    (onK ms ds a = [] ∨ ∀ q, y1 = some q → S q.block ∧ ¬ T q.block) ∧ (onV ms ds a = [] ∨ ∀ q, y2 = some q → S q.block ∧ ¬ T q.block)
section
variable {ms : List Int} {ds : List (List Int)} {l : List (Int × Int)} {flat : List Value} {S S' T T' U : Nat → Prop} {W W' : World}
theorem ObjRows.turn (h : ObjRows ms ds l flat S T W) (hm : Moved U W W') (hU : ∀ q, q < W.heap.size → U q → S q → T q) (hS : ∀ q, S q → S' q) (hT : ∀ q, q < W.heap.size → S q → T' q → T q) : ObjRows ms ds l flat S' T' W' := by
  intro j a id hj
  obtain ⟨y1, y2, c1, c2, h0, h1, h2, h3, h4⟩ := h j a id hj
  have key : ∀ {k : IntKind} {y : Option Addr} {xs : List Int}, Reads k W y xs → (xs = [] ∨ ∀ q, y = some q → S q.block ∧ ¬ T q.block) → Reads k W' y xs ∧ (xs = [] ∨ ∀ q, y = some q → S' q.block ∧ ¬ T' q.block) := by
    intro k y xs hr hq
    rcases hq with rfl | hq
    · exact ⟨.inl rfl, .inl rfl⟩
    · rcases hr.lt_or with rfl | hl
      · exact ⟨.inl rfl, .inl rfl⟩
      · exact ⟨hm.reads hr (fun q e hu => (hq q e).2 (hU _ (hl q e) hu (hq q e).1)), .inr fun q e => ⟨hS _ (hq q e).1, fun ht => (hq q e).2 (hT _ (hl q e) (hq q e).1 ht)⟩⟩
  exact ⟨y1, y2, c1, c2, h0, (key h1 h3).1, (key h2 h4).1, (key h1 h3).2, (key h2 h4).2⟩
theorem ObjRows.snoc (h : ObjRows ms ds l flat S T W) (hl : flat.length = l.length * 8) {a id : Int} {y1 y2 : Option Addr} {c1 c2 : Nat} (h1 : Reads .i64 W y1 (onK ms ds a)) (h2 : Reads .u64 W y2 (onV ms ds a))
    (h3 : onK ms ds a = [] ∨ ∀ q, y1 = some q → S q.block ∧ ¬ T q.block) (h4 : onV ms ds a = [] ∨ ∀ q, y2 = some q → S q.block ∧ ¬ T q.block) : ObjRows ms ds (l ++ [(a, id)]) (flat ++ objCs ms ds a id y1 y2 c1 c2) S T W := by
  intro j a' id' hj
  by_cases hjl : j < l.length
  · rw [List.getElem?_append_left hjl] at hj
    obtain ⟨z1, z2, d1, d2, g0, g⟩ := h j a' id' hj
    refine ⟨z1, z2, d1, d2, ?_, g⟩
    rw [List.drop_append_of_le_length (by omega), List.take_append_of_le_length (by simp; omega)]
    exact g0
  · rw [List.getElem?_append_right (by omega)] at hj
    have hj0 : j = l.length := by
      rcases Nat.lt_or_ge (j - l.length) 1 with h | h
      · omega
      · rw [List.getElem?_eq_none (by simpa using h)] at hj; cases hj
    subst hj0
    simp at hj
    obtain ⟨rfl, rfl⟩ := hj
    refine ⟨y1, y2, c1, c2, ?_, h1, h2, h3, h4⟩
    rw [← hl, List.drop_left]
    rfl
end

def ObjsI (ms : List Int) (ds : List (List Int)) (B0 b3 : Nat) (L : List (Int × Int)) : HP := fun W S =>
  ∃ v flat, W.heap[b3]? = some (.cells #[v] 62 (0, 0)) ∧ W.ownsRow B0 104 8 v L.length flat ∧ ObjRows ms ds L flat S (fun k => k = b3 ∨ v.ownBlock = some k) W ∧ S b3 ∧ (∀ k, v.ownBlock = some k → S k) ∧ (∀ k, S k → B0 ≤ k ∧ k < W.heap.size)
theorem ObjsI.ok (ms : List Int) (ds : List (List Int)) (B0 b3 : Nat) (L : List (Int × Int)) : (ObjsI ms ds B0 b3 L).Ok := by
  constructor
  · rintro w w' S T ⟨v, flat, h1, h2, h3, h4, h5, h6⟩ hm hd
    exact ⟨v, flat, hm.heap h1 (hd _ h4), hm.owns h2 (fun k hk => hd _ (h5 k hk)), h3.turn hm (fun q _ hu hs => absurd hu (hd q hs)) (fun _ h => h) (fun _ _ _ h => h), h4, h5, fun k hk => ⟨(h6 k hk).1, Nat.lt_of_lt_of_le (h6 k hk).2 hm.size⟩⟩
  · rintro w S ⟨v, flat, h1, h2, h3, h4, h5, h6⟩ k hk
    exact (h6 k hk).2
def ObjsP (ms : List Int) (ds : List (List Int)) (v : Value) (L : List (Int × Int)) : HP := fun W S =>
  ∃ flat, W.ownsRow 0 104 8 v L.length flat ∧ ObjRows ms ds L flat S (fun _ => False) W ∧ (∀ k, v.ownBlock = some k → S k) ∧ ∀ k, S k → k < W.heap.size
theorem ObjsP.ok (ms : List Int) (ds : List (List Int)) (v : Value) (L : List (Int × Int)) : (ObjsP ms ds v L).Ok := by
  constructor
  · rintro w w' S T ⟨flat, h2, h3, h5, h6⟩ hm hd
    exact ⟨flat, hm.owns h2 (fun k hk => hd _ (h5 k hk)), h3.turn hm (fun q _ hu hs => absurd hu (hd q hs)) (fun _ h => h) (fun _ _ _ h => h), h5, fun k hk => Nat.lt_of_lt_of_le (h6 k hk) hm.size⟩
  · rintro w S ⟨flat, h2, h3, h5, h6⟩ k hk
    exact h6 k hk
theorem objsI_snoc {ms : List Int} {ds : List (List Int)} {B0 b3 : Nat} {L : List (Int × Int)} {W W4 : World} {S G : Nat → Prop} {v v' : Value} {flat : List Value} {tmp : Obj} {a id : Int} {y1 y2 : Option Addr} {c1 c2 : Nat} {M : Nat}
    (hb : W.heap[b3]? = some (.cells #[v] 62 (0, 0))) (ho : W.ownsRow B0 104 8 v L.length flat) (hr : ObjRows ms ds L flat S (fun k => k = b3 ∨ v.ownBlock = some k) W) (hS3 : S b3) (hSv : ∀ k, v.ownBlock = some k → S k) (hSl : ∀ k, S k → B0 ≤ k ∧ k < W.heap.size)
    (h1 : Reads .i64 W y1 (onK ms ds a)) (h2 : Reads .u64 W y2 (onV ms ds a)) (h3 : onK ms ds a = [] ∨ ∀ q, y1 = some q → G q.block) (h4 : onV ms ds a = [] ∨ ∀ q, y2 = some q → G q.block) (hG : ∀ k, G k → ¬ S k ∧ B0 ≤ k ∧ k < W.heap.size)
    (ho4 : W4.ownsRow B0 104 8 v' (L.length + 1) (flat ++ objCs ms ds a id y1 y2 c1 c2)) (hg : (W.alloc tmp).grownBy W4 v.ownBlock) (hv : v'.ownBlock = v.ownBlock ∨ ∀ k, v'.ownBlock = some k → (W.alloc tmp).heap.size ≤ k) :
    ∃ S', Grows (fun k => S k ∨ G k ∨ M ≤ k) S' W (W4.setCell ⟨b3, 0, none⟩ v') ∧ ObjsI ms ds B0 b3 (L ++ [(a, id)]) (W4.setCell ⟨b3, 0, none⟩ v') S' := by
  have hne : v.ownBlock ≠ some b3 := owns_neO ho hb (by simp)
  have hm1 : Moved (fun b => v.ownBlock = some b) W W4 := (Moved.alloc _ W tmp).trans (.of_grown hg (fun k e => e)) (fun q e => .inl e)
  have hm : Moved (fun b => b = b3 ∨ v.ownBlock = some b) W (W4.setCell ⟨b3, 0, none⟩ v') :=
    ((Moved.alloc _ W tmp).trans (.of_grown hg (fun k e => .inr e)) (fun q e => .inl e)).trans (.of_set W4 _ 0 v' (.inl rfl)) (fun q e => .inl e)
  have hb4 : W4.heap[b3]? = some (.cells #[v] 62 (0, 0)) := hm1.heap hb hne
  have hsz : W.heap.size < W4.heap.size := by have := hg.size; simp at this; omega
  have hsv : ∀ k, v'.ownBlock = some k → S k ∨ W.heap.size ≤ k := by
    intro k hk
    rcases hv with e | e
    · exact .inl (hSv k (e ▸ hk))
    · have := e k hk; simp at this; exact .inr (by omega)
  refine ⟨fun k => S k ∨ G k ∨ v'.ownBlock = some k, ⟨⟨hm.os, hm.tape, hm.output, hm.size, fun k hk hn => hm.block k hk (fun e => hn (.inl ?_))⟩, fun k hk => ?_⟩, v', flat ++ objCs ms ds a id y1 y2 c1 c2, Boxed.set (t := 62) v' hb4, ?_, ?_, .inl hS3, fun k hk => .inr (.inr hk), fun k hk => ?_⟩
  · rcases e with rfl | e
    · exact hS3
    · exact hSv k e
  · rcases hk with hk | hk | hk
    · exact .inl (.inl hk)
    · exact .inl (.inr (.inl hk))
    · rcases hsv k hk with h | h
      · exact .inl (.inl h)
      · exact .inr h
  · rw [List.length_append]
    exact ho4.kept (grownBy_setCell' W4 _ v') (.inr (fun e => Boxed.not_row (t := 62) (e := 104) hb4 (by decide) ho4 e.symm))
  · have hrs : ObjRows ms ds (L ++ [(a, id)]) (flat ++ objCs ms ds a id y1 y2 c1 c2) (fun k => S k ∨ G k) (fun k => k = b3 ∨ v.ownBlock = some k) W := by
      refine (hr.turn (Moved.refl (fun _ => False) W) (fun _ _ h => h.elim) (S' := fun k => S k ∨ G k) (fun q h => .inl h) (fun _ _ _ h => h)).snoc ho.1 h1 h2 ?_ ?_
      · exact h3.imp_right fun h q e => ⟨.inr (h q e), fun e2 => (hG _ (h q e)).1 (e2.elim (fun e2 => e2 ▸ hS3) (hSv _))⟩
      · exact h4.imp_right fun h q e => ⟨.inr (h q e), fun e2 => (hG _ (h q e)).1 (e2.elim (fun e2 => e2 ▸ hS3) (hSv _))⟩
    refine hrs.turn hm (fun q _ h _ => h) (fun q h => h.elim .inl (fun h => .inr (.inl h))) (fun q hq hs ht => ?_)
    rcases ht with e | e
    · exact .inl e
    · rcases hv with hv | hv
      · exact .inr (hv ▸ e)
      · have := hv q e; simp at this; omega
  · have hs2 := hm.size
    rcases hk with hk | hk | hk
    · have := hSl k hk; omega
    · have := hG k hk; omega
    · have := (ho4.kept (grownBy_setCell' W4 b3 v') (.inr (fun e => Boxed.not_row (t := 62) (e := 104) hb4 (by decide) ho4 e.symm))).lt k hk
      exact this
def thsOf (H : HM) (id : Int) : List (Int × Int) := match lk H.ar id with | some A => A.ts.map (fun p => (p.1 + 1, id)) | none => []
def objsL (H : HM) : List (Int × Int) := (keysL H.live).flatMap (thsOf H)
def objsTo (H : HM) (j : Nat) : List (Int × Int) := ((keysL H.live).take j).flatMap (thsOf H)
theorem objsTo_succ {H : HM} {j : Nat} {id : Int} (h : (keysL H.live)[j]? = some id) : objsTo H (j + 1) = objsTo H j ++ thsOf H id := by
  unfold objsTo
  rw [List.take_add_one, h, List.flatMap_append]
  simp
theorem objsTo_all (H : HM) : objsTo H (keysL H.live).length = objsL H := by
  unfold objsTo objsL
  rw [List.take_length]
end Go.Proofs.YtcenagpkfimkbaaGreatDoor
namespace Go.Proofs.YtcenagpkfimkbaaGreatDoor
open Go Go.RowKit

structure ObjAtJ (ms : List Int) (ds : List (List Int)) (W : World) (g j : Nat) (a id : Int) (y1 y2 : Option Addr) (k1 k2 : Nat) : Prop where
  c0 : W.cell? ⟨g, j * 8, none⟩ = some (.int .i64 (onI ms ds a a))
  c1 : W.cell? ⟨g, j * 8 + 1, none⟩ = some (.int .i64 id)
  c2 : W.cell? ⟨g, j * 8 + 2, none⟩ = some (.bool (onA ms ds a))
  c3 : W.cell? ⟨g, j * 8 + 3, none⟩ = some (.int .i64 (onI ms ds a (gK (onX ms a))))
  c4 : W.cell? ⟨g, j * 8 + 4, none⟩ = some (.int .i64 (onI ms ds a (gT (onX ms a))))
  c5 : W.cell? ⟨g, j * 8 + 5, none⟩ = some (.int .i64 (onI ms ds a (gN (onX ms a))))
  c6 : W.cell? ⟨g, j * 8 + 6, none⟩ = some (.slice y1 (onK ms ds a).length k1)
  c7 : W.cell? ⟨g, j * 8 + 7, none⟩ = some (.slice y2 (onV ms ds a).length k2)
  r1 : Reads .i64 W y1 (onK ms ds a)
  r2 : Reads .u64 W y2 (onV ms ds a)
structure ObjSl (ms : List Int) (ds : List (List Int)) (L : List (Int × Int)) (W : World) (v : Value) (g c : Nat) (ad : Option Addr) : Prop where
  v : v = .slice ad L.length c
  nn : L ≠ [] → ad = some ⟨g, 0, none⟩
  row : ∀ j a id, L[j]? = some (a, id) → ∃ y1 y2 c1 c2, ObjAtJ ms ds W g j a id y1 y2 c1 c2
theorem ObjsP.sl {ms : List Int} {ds : List (List Int)} {v : Value} {L : List (Int × Int)} {W : World} {S : Nat → Prop} (h : ObjsP ms ds v L W S) : ∃ g c ad, ObjSl ms ds L W v g c ad := by
  obtain ⟨flat, h1, h2, _, _⟩ := h
  obtain ⟨ad, c, rfl, _, hn, hq⟩ := owns_slice h1
  have hcell : ∀ q, ad = some q → ∀ i u, flat[i]? = some u → W.cell? ⟨q.block, i, none⟩ = some u := by
    rintro q rfl i u hu
    obtain ⟨g, rfl⟩ := hq q rfl
    have := h1.cells rfl i u hu
    rw [addr_add_none, Nat.zero_add] at this
    exact this
  by_cases hL : L = []
  · subst hL
    exact ⟨0, c, ad, rfl, fun h => absurd rfl h, fun j a id hj => by simp at hj⟩
  · cases ad with
    | none => exact absurd (List.length_eq_zero_iff.1 (hn rfl).1) hL
    | some q =>
      obtain ⟨g, rfl⟩ := hq q rfl
      refine ⟨g, c, _, rfl, fun _ => rfl, fun j a id hj => ?_⟩
      obtain ⟨y1, y2, c1, c2, e, r1, r2, _⟩ := h2 j a id hj
      have hc : ∀ i, i < 8 → W.cell? ⟨g, j * 8 + i, none⟩ = (objCs ms ds a id y1 y2 c1 c2)[i]? := by
        intro i hi
        have e2 : (objCs ms ds a id y1 y2 c1 c2)[i]? = flat[j * 8 + i]? := by
          rw [← e, List.getElem?_take, if_pos hi, List.getElem?_drop]
        have hl : i < (objCs ms ds a id y1 y2 c1 c2).length := by simp [objCs]; omega
        rw [e2]
        obtain ⟨u, hu⟩ : ∃ u, (objCs ms ds a id y1 y2 c1 c2)[i]? = some u := ⟨_, List.getElem?_eq_getElem hl⟩
        rw [e2] at hu
        rw [hu]
        exact hcell _ rfl _ _ hu
      exact ⟨y1, y2, c1, c2, hc 0 (by omega), hc 1 (by omega), hc 2 (by omega), hc 3 (by omega), hc 4 (by omega), hc 5 (by omega), hc 6 (by omega), hc 7 (by omega), r1, r2⟩
theorem ObjSl.below {ms : List Int} {ds : List (List Int)} {L : List (Int × Int)} {W W' : World} {v : Value} {g c : Nat} {ad : Option Addr} (h : ObjSl ms ds L W v g c ad) (hb : Below W.heap.size W W') : ObjSl ms ds L W' v g c ad := by
  refine ⟨h.v, h.nn, fun j a id hj => ?_⟩
  obtain ⟨y1, y2, c1, c2, ⟨h0, h1, h2, h3, h4, h5, h6, h7, r1, r2⟩⟩ := h.row j a id hj
  have key : ∀ {p : Addr} {u : Value}, W.cell? p = some u → W'.cell? p = some u := fun h => (Moved.of_below hb (fun _ => False)).cell h (fun h => h)
  exact ⟨y1, y2, c1, c2, key h0, key h1, key h2, key h3, key h4, key h5, key h6, key h7, r1.below hb, r2.below hb⟩

set_option maxRecDepth 100000 in
set_option maxHeartbeats 2000000 in
theorem alike_any {ms : List Int} {ds : List (List Int)} {L : List (Int × Int)} {w : World} {va vb : Value} {ga gb ca cb : Nat} {aa ab : Option Addr} (ha : ObjSl ms ds L w va ga ca aa) (hb : ObjSl ms ds L w vb gb cb ab) (hl : L.length ≤ 100000) (hv : ∀ a, (onV ms ds a).length ≤ 100000) :
    Calls Tryz.prog 15 #[va, vb] w fun e w' => e = .returned (.bool true) ∧ Below w.heap.size w w' := by
  have HA := Lib.hid (And.intro ha hb)
  obtain rfl := ha.v
  obtain rfl := hb.v
  clear ha hb
  obtain ⟨N, hN⟩ : ∃ N, L.length = N := ⟨_, rfl⟩
  have HN := Lib.hid hN
  rw [hN] at hl ⊢
  clear hN
  go_enter Tryz.func15, Tryz.ntmps15
  go_wp2
  go_loopw [14] (fun i wr => ∃ j : Nat, j ≤ N ∧ i = .int .i64 j ∧ Hid (Below w.heap.size w wr)) (fun i _ => N - (intOf i).toNat)
  case atStart => exact ⟨0, Nat.zero_le _, rfl, Lib.hid (Below.refl _ _)⟩
  case round =>
    obtain ⟨j, hj, rfl, HV⟩ := hrel
    by_cases hlt : j < N
    · obtain ⟨⟨a, id⟩, hx⟩ : ∃ x, L[j]? = some x := ⟨_, List.getElem?_eq_getElem (by rw [HN.out]; exact hlt)⟩
      have hne : L ≠ [] := fun e => by rw [e] at hx; simp at hx
      obtain ⟨y1, y2, c1, c2, h0, h1, h2, h3, h4, h5, h6, h7, r1, r2⟩ := (HA.out.1.below HV.out).row j a id hx
      obtain ⟨z1, z2, d1, d2, g0, g1, g2, g3, g4, g5, g6, g7, s1, s2⟩ := (HA.out.2.below HV.out).row j a id hx
      obtain rfl := HA.out.1.nn hne
      obtain rfl := HA.out.2.nn hne
      obtain ⟨M, hM⟩ : ∃ M, (onV ms ds a).length = M := ⟨_, rfl⟩
      have HM := Lib.hid (And.intro r2 (And.intro s2 hM))
      have hvl := hv a
      rw [hM] at h7 g7 hvl
      clear h2 h3 h4 h5 h6 g2 g3 g4 g5 g6 r1 s1 r2 s2 hM hx
      go_wp2
      go_big_quiet (fail)
      go_wp2
      go_loopw [62] (fun k wr2 => ∃ i : Nat, i ≤ M ∧ k = .int .i64 i ∧ Hid (Below wr.heap.size wr wr2)) (fun k _ => M - (intOf k).toNat)
      case atStart => exact ⟨0, Nat.zero_le _, rfl, Lib.hid ⟨rfl, rfl, rfl, Nat.le_refl _, fun _ _ => rfl⟩⟩
      case round =>
        obtain ⟨i, hi, rfl, HW⟩ := hrel
        have k7 := (Moved.of_below HW.out (fun _ => False)).cell h7 (fun h => h)
        have l7 := (Moved.of_below HW.out (fun _ => False)).cell g7 (fun h => h)
        by_cases hlt2 : i < M
        · obtain ⟨b1, o1, rfl, q1⟩ := (HM.out.1.below HW.out).at_ i (by rw [HM.out.2.2]; exact hlt2)
          obtain ⟨b2, o2, rfl, q2⟩ := (HM.out.2.1.below HW.out).at_ i (by rw [HM.out.2.2]; exact hlt2)
          obtain ⟨x, hx⟩ : ∃ x, (onV ms ds a)[i]?.getD 0 = x := ⟨_, rfl⟩
          rw [hx] at q1 q2
          clear hx h7 g7 h0 h1 g0 g1
          go_wp2
          go_big_quiet (fail)
          have HB2 : ∀ n, Hid (Below wr.heap.size wr (wr.drewN n)) := fun n => Lib.hid ⟨rfl, rfl, rfl, Nat.le_refl _, fun _ _ => rfl⟩
          go_wp2
          go_roundw
          case rel => exact ⟨i + 1, by omega, by go_num, Lib.hid (HW.out.trans ((HB2 _).out.mono HW.out.size))⟩
          case measure => simp [intOf]; omega
        · obtain rfl : i = M := by omega
          have HN2 : Hid (Below w.heap.size w wr) := Lib.hid (HV.out.trans (HW.out.mono HV.out.size))
          go_wp2
          exact ⟨⟨j + 1, by omega, by go_num, HN2⟩, by simp [intOf]; omega⟩
    · obtain rfl : j = N := by omega
      go_wp2
      go_ret
      exact ⟨rfl, HV.out⟩
end Go.Proofs.YtcenagpkfimkbaaGreatDoor
namespace Go.Proofs.YtcenagpkfimkbaaGreatDoor
open Go Go.RowKit Go.Shelf

attribute [local go_sem] Oper.semAt_some
@[local go_sem] theorem wide_fnOB (f : FuncId) : Fence.wide.fn f = True := rfl

structure OaInv (H : HM) (B0 b3 : Nat) (w1 : World) (L : List (Int × Int)) (Ds : List Nat) (wr : World) : Prop where
  j : ∃ S', ObjsI H.ms H.ds B0 b3 L wr S' ∧ Grows (fun k => k = b3) S' w1 wr ∧ ∀ D ∈ Ds, ¬ S' D
  nd : Ds.Nodup
  ds : ∀ D ∈ Ds, wr.heap[D]? = some (.deferred (some []))
  ge : ∀ D ∈ Ds, w1.heap.size ≤ D
theorem OaInv.next {H : HM} {B0 b3 : Nat} {w1 wr W4 W5 : World} {L L' : List (Int × Int)} {Ds : List Nat} {D : Nat} {S' S1 : Nat → Prop} (hv : OaInv H B0 b3 w1 L Ds wr) (h0 : Grows (fun k => k = b3) S' w1 wr) (hn : ∀ D ∈ Ds, ¬ S' D)
    (hb : Below wr.heap.size wr W4) (hg : Grows S' S1 W4 W5) (hD : W4.heap.size ≤ D) (hnD : ¬ S1 D) (hK : W5.heap[D]? = some (.deferred (some []))) (hI : ObjsI H.ms H.ds B0 b3 L' W5 S1) : OaInv H B0 b3 w1 L' (D :: Ds) W5 := by
  have hlt : ∀ D' ∈ Ds, D' < wr.heap.size := fun D' h => heap_lt (hv.ds D' h)
  have s1 := h0.m.size
  have s2 := hb.size
  have n5 : ∀ D' ∈ Ds, ¬ S1 D' := fun D' h e => (hg.s D' e).elim (hn D' h) (fun e => by have := hlt D' h; omega)
  refine ⟨⟨S1, hI, h0.trans (Grows.after_below hb hg), ?_⟩, List.nodup_cons.2 ⟨fun h => by have := hlt D h; omega, hv.nd⟩, ?_, ?_⟩
  · intro D' h
    rcases List.mem_cons.1 h with rfl | h
    · exact hnD
    · exact n5 D' h
  · intro D' h
    rcases List.mem_cons.1 h with rfl | h
    · exact hK
    · exact hg.m.heap (heap_below hb (hv.ds D' h) (hlt D' h)) (hn D' h)
  · intro D' h
    rcases List.mem_cons.1 h with rfl | h
    · omega
    · exact hv.ge D' h

theorem objsPre_len (H : HM) (l : List Int) (j : Nat) : ((l.take j).flatMap (thsOf H)).length ≤ (l.flatMap (thsOf H)).length := by
  conv => rhs; rw [← List.take_append_drop j l, List.flatMap_append, List.length_append]
  omega
set_option maxRecDepth 100000 in
set_option maxHeartbeats 4000000 in
theorem hObjects_any {B : HB} {H : HM} {O0 O1 : Obj} {w : World} {SH : Nat → Prop} (h : HeapSt B H O0 O1 w SH) (hk : ItOk H) (hl : H.live.length ≤ 100000) (hA : ∀ id ∈ keysL H.live, ∃ A, lk H.ar id = some A) (ho : (objsL H).length ≤ 100000) :
    Calls Tryz.prog 14 #[.pointer (some ⟨B.hb, 0, none⟩)] w fun e w' => ∃ v SO, e = .returned v ∧ ObjsP H.ms H.ds v (objsL H) w' SO ∧ Below w.heap.size w w' ∧ ∀ k, SO k → w.heap.size ≤ k := by
  have hltS := (HeapSt.ok B H O0 O1).lt h
  obtain ⟨Wb, hWb⟩ : ∃ Wb, w.alloc (.cells #[.slice none 0 0] 62) = Wb := ⟨_, rfl⟩
  have hbb : Below w.heap.size w Wb := by rw [← hWb]; exact (Below.refl _ _).alloc (Nat.le_refl _) _
  have hbx : Wb.heap[w.heap.size]? = some (.cells #[.slice none 0 0] 62 (0, 0)) := by rw [← hWb]; exact heap_alloc_eq _ _
  have hLv := hLive_any (h.later hbb) (by omega)
  have hIds : ∀ id ∈ keysL H.live, 1 ≤ id ∧ id ≤ 1000000 := fun id hi => by obtain ⟨A, e⟩ := hA id hi; have := hk.ar id A e; omega
  have hkl : (keysL H.live).length ≤ 100000 := by simp only [keysL, List.length_map]; exact hl
  refine (callsIn_wide (n := 3)).1 ?_
  refine callsIn_of_wp_marks Tryz.func14 rfl trivial ?_ rfl
  simp only [Tryz.ntmps14, List.size_toArray, List.length_cons, List.length_nil, Nat.reduceAdd, Nat.reduceSub, Array.replicate_succ, Array.replicate_zero, List.push_toArray, List.append_toArray, List.nil_append, List.cons_append]
  have hwb := hbb.size
  have HB := Lib.hid (And.intro hbb hbx)
  have HH := Lib.hid (And.intro h (And.intro hk (And.intro hA (And.intro hIds (And.intro ho hltS)))))
  clear h hk hA hIds ho hltS hbb hbx hl
  gi_wp2_with fail
  try rw [hWb]
  gi_wp2_with fail
  refine (callsIn_wide.2 hLv).mono ?_
  rintro e w1 ⟨v, rfl, hb1, hown⟩
  obtain ⟨a, c, rfl, hrd, hab, _⟩ := owns_reads hown
  have H1 := Lib.hid (And.intro (HB.out.1.trans (hb1.mono HB.out.1.size)) (And.intro hrd (And.intro hab (heap_below hb1 HB.out.2 (heap_lt HB.out.2)))))
  have hw0 : w.heap.size < Wb.heap.size := heap_lt HB.out.2
  have hw1 : w.heap.size < w1.heap.size := by have := heap_lt H1.out.2.2.2; exact this
  clear hLv hb1 hown hrd hab hWb
  obtain ⟨N, hN⟩ : ∃ N, (keysL H.live).length = N := ⟨_, rfl⟩
  have HN := Lib.hid hN
  rw [hN] at hkl ⊢
  clear hN
  gi_wp2
  refine wpIn_loop (fun a' wr => ∃ (j : Nat) (Ds : List Nat) (u5 u11 u12 u13 u14 u15 u16 u22 : Value), j ≤ N ∧ Hid (OaInv H w.heap.size w.heap.size w1 (objsTo H j) Ds wr) ∧
      a' = { tmps := #[.pointer (some ⟨B.hb, 0, none⟩), undef, .slice none 0 0, .pointer (some ⟨w.heap.size, 0, none⟩), undef, u5, undef, .pointer (some ⟨B.hb, 0, none⟩), .slice a N c, .int .i64 N, .int .i64 j, u11, u12, u13, u14, u15, u16, undef, undef, undef, undef, undef, u22, undef], defers := Ds.map markOf })
    (fun a' _ => N - (intOf (a'.tmps.getD 10 undef)).toNat) ?_ ?_
  · refine ⟨0, [], _, _, _, _, _, _, _, _, Nat.zero_le _, Lib.hid ⟨⟨fun k => k = w.heap.size, ⟨.slice none 0 0, [], H1.out.2.2.2, World.ownsRow_nil _ _ _ _, ?_, rfl, ?_, ?_⟩, Grows.refl _ _, by simp⟩, by simp, by simp, by simp⟩, rfl⟩
    · intro j a' id hj
      simp [objsTo] at hj
    · intro k hk
      simp [Value.ownBlock] at hk
    · rintro k rfl
      exact ⟨Nat.le_refl _, hw1⟩
  · rintro a' wr ⟨j, Ds, u5, u11, u12, u13, u14, u15, u16, u22, hj, HV, rfl⟩
    by_cases hlt : j < N
    · obtain ⟨b, off, rfl, hc⟩ := H1.out.2.1.at_ j (by rw [HN.out]; exact hlt)
      obtain ⟨id, hid⟩ : ∃ id, (keysL H.live)[j]? = some id := ⟨_, List.getElem?_eq_getElem (by rw [HN.out]; exact hlt)⟩
      rw [hid] at hc
      simp only [Option.getD_some] at hc
      obtain ⟨S', j1, j2, j3⟩ := HV.out.j
      have hsz := j2.m.size
      have nb : ¬ b = w.heap.size := fun e => by have h2 := (H1.out.2.2.1 _ rfl).1; simp at h2; omega
      have hcr := j2.m.cell hc nb
      obtain ⟨A, hA⟩ := HH.out.2.2.1 id (List.mem_of_getElem? hid)
      have hth : thsOf H id = A.ts.map (fun p => (p.1 + 1, id)) := by unfold thsOf; rw [hA]
      have hsucc := objsTo_succ hid
      rw [hth] at hsucc
      have hOb := hobjects_any B.hb id wr
      obtain ⟨W4, hW4⟩ : ∃ W4, (wr.alloc (.cells #[.pointer (some ⟨B.hb, 0, none⟩)] 59)).alloc (.cells #[.int .i64 id] 3) = W4 := ⟨_, rfl⟩
      have hb4 : Below wr.heap.size wr W4 := by rw [← hW4]; exact ((Below.refl _ _).alloc (Nat.le_refl _) _).alloc (by simp) _
      have p4 : W4.heap[wr.heap.size]? = some (.cells #[.pointer (some ⟨B.hb, 0, none⟩)] 59 (0, 0)) := by rw [← hW4]; exact heap_alloc_lt (heap_alloc_eq _ _) _
      have p5 : W4.heap[wr.heap.size + 1]? = some (.cells #[.int .i64 id] 3 (0, 0)) := by rw [← hW4]; simpa using heap_alloc_eq (wr.alloc (.cells #[.pointer (some ⟨B.hb, 0, none⟩)] 59)) (.cells #[.int .i64 id] 3)
      rw [hW4] at hOb
      have hBr : Below w.heap.size w wr := Moved.below H1.out.1 j2.m (by omega) (fun q e => by omega)
      have HZ := Lib.hid (And.intro j1 (And.intro j2 (And.intro j3 (And.intro hA (And.intro hsucc (And.intro hb4 (And.intro p4 (And.intro p5 hBr))))))))
      clear j1 j2 j3 hA hsucc hth hb4 p4 p5 hBr hc hid hW4
      gi_wp2_with fail
      refine (callsIn_wide.2 hOb).mono ?_
      rintro e W4' ⟨rfl, rfl⟩
      clear hOb
      gi_wp2
      refine wpIn_range_hpG (by omega) (gf := 86) (lb := #[.pointer (some ⟨wr.heap.size, 0, none⟩), .pointer (some ⟨wr.heap.size + 1, 0, none⟩)]) rfl (enters_of Tryz.func86 (by kernel_rfl) rfl) objG_new
        (objs_handsG w.heap.size B H O0 O1 HH.out.2.1 HZ.out.2.2.2.1 wr.heap.size (wr.heap.size + 1)) (fun pre => ObjsI H.ms H.ds w.heap.size w.heap.size (objsTo H j ++ pre.map (fun p => (p.1 + 1, id)))) (fun _ _ => False) (fun _ => ObjsI.ok _ _ _ _ _) noHP_ok S'
        (by rw [List.map_nil, List.append_nil]; exact (ObjsI.ok _ _ _ _ _).below HZ.out.1 HZ.out.2.2.2.2.2.1) (fun x args W S G hE => by obtain ⟨_, _, y1, y2, c1, c2, hE, _⟩ := hE; rw [hE]; rfl) ?pre ?round ?done ?stop
      case pre =>
        intro Wn Sn hb hs
        have hltS' := (ObjsI.ok H.ms H.ds _ _ _).lt HZ.out.1
        have s5 := heap_lt HZ.out.2.2.2.2.2.2.2.1
        have s4 := HZ.out.2.2.2.2.2.1.size
        refine ⟨⟨heap_below hb HZ.out.2.2.2.2.2.2.1 (by omega), heap_below hb HZ.out.2.2.2.2.2.2.2.1 s5, fun e => ?_, fun e => ?_, SH, ((HH.out.1.later HZ.out.2.2.2.2.2.2.2.2).later HZ.out.2.2.2.2.2.1).later hb, fun k hk e => ?_⟩, by have := hb.size; have := HZ.out.2.2.2.2.2.2.2.2.size; omega⟩
        · rcases hs _ e with h | h
          · have := hltS' _ h; omega
          · omega
        · rcases hs _ e with h | h
          · have := hltS' _ h; omega
          · omega
        · have h1 := HH.out.2.2.2.2.2 k hk
          have h2 := HZ.out.2.2.2.2.2.2.2.2.size
          rcases hs _ e with h | h
          · rcases HZ.out.2.1.s k h with h | h
            · omega
            · omega
          · omega
      case round =>
        rintro l' D' pre p args Wn Sn G hpart ⟨hE, hGB, y1, y2, e1, e2, hargs, rfl⟩ hI hltn hl' hnl hnel
        obtain ⟨⟨SH', hHn, hdis⟩, z1, z2, d1, d2, hargs2, hr1, hr2, hn1, hn2⟩ := hE
        rw [hargs] at hargs2
        simp [objV] at hargs2
        obtain ⟨⟨rfl, _⟩, rfl, _⟩ := hargs2
        subst hargs
        obtain ⟨av, hav⟩ : ∃ av, p.1 + 1 = av := ⟨_, rfl⟩
        rw [hav] at hr1 hr2 hn1 hn2 hGB ⊢
        gi_wp2
        refine ⟨(Below.refl _ _).alloc (Nat.le_refl _) _, ?_⟩
        intro ob hm hIB
        obtain ⟨WA, hWA⟩ : ∃ WA, Wn.alloc (.cells #[.int .i64 (onI H.ms H.ds av av), .int .i64 id, .bool (onA H.ms H.ds av), .int .i64 (onI H.ms H.ds av (gK (onX H.ms av))), .int .i64 (onI H.ms H.ds av (gT (onX H.ms av))), .int .i64 (onI H.ms H.ds av (gN (onX H.ms av))), .slice y1 (onK H.ms H.ds av).length d1, .slice y2 (onV H.ms H.ds av).length d2] 104) = WA := ⟨_, rfl⟩
        rw [hWA] at hm hIB ⊢
        obtain ⟨WB, hWB⟩ : ∃ WB, WA.putObj l' ob = WB := ⟨_, rfl⟩
        rw [hWB] at hm hIB ⊢
        have hbA : Below Wn.heap.size Wn WA := by rw [← hWA]; exact (Below.refl _ _).alloc (Nat.le_refl _) _
        have hmN : Moved (fun k => k = l') Wn WB := (Moved.of_below hbA _).trans hm (fun q e => .inl e)
        have oB : WB.heap[Wn.heap.size]? = some (.cells #[.int .i64 (onI H.ms H.ds av av), .int .i64 id, .bool (onA H.ms H.ds av), .int .i64 (onI H.ms H.ds av (gK (onX H.ms av))), .int .i64 (onI H.ms H.ds av (gT (onX H.ms av))), .int .i64 (onI H.ms H.ds av (gN (onX H.ms av))), .slice y1 (onK H.ms H.ds av).length d1, .slice y2 (onV H.ms H.ds av).length d2] 104 (0, 0)) := hm.heap (by rw [← hWA]; exact heap_alloc_eq _ _) hnel
        have hR1 := reads_kept hr1 hmN (hn1.imp_right (fun h q e e2 => (h q e).1 (.inr (.inl e2))))
        have hR2 := reads_kept hr2 hmN (hn2.imp_right (fun h q e e2 => (h q e).1 (.inr (.inl e2))))
        obtain ⟨L, hL⟩ : ∃ L, objsTo H j ++ pre.map (fun (p : Int × Int) => (p.1 + 1, id)) = L := ⟨_, rfl⟩
        rw [hL] at hIB
        obtain ⟨vo, flat, g1, g2, g3, g4, g5, g6⟩ := hIB
        have zo := heap_cell g1 0
        have fo := heap_free g1 0
        have z0 := heap_cell oB 0
        have z1 := heap_cell oB 1
        have z2 := heap_cell oB 2
        have z3 := heap_cell oB 3
        have z4 := heap_cell oB 4
        have z5 := heap_cell oB 5
        have z6 := heap_cell oB 6
        have z7 := heap_cell oB 7
        simp at zo z0 z1 z2 z3 z4 z5 z6 z7
        obtain ⟨va, vc, rfl, _⟩ := owns_slice g2
        obtain ⟨i0, x0, hi0, hz0, hz1, hz2, hz3⟩ := info_objO
        have hWB := hmN.size
        have hlen : (objsTo H j ++ pre.map (fun (p : Int × Int) => (p.1 + 1, id))).length ≤ 100000 := by
          refine Nat.le_trans ?_ HH.out.2.2.2.2.1
          rw [← objsTo_all]
          have h1 : (objsTo H (j + 1)).length ≤ (objsTo H (keysL H.live).length).length := by
            unfold objsTo
            rw [List.take_length]
            exact (objsPre_len _ _ _)
          refine Nat.le_trans ?_ h1
          rw [HZ.out.2.2.2.2.1]
          simp only [List.length_append, List.length_map]
          obtain ⟨more, hmore⟩ := hpart
          rw [← hmore]
          simp
        rw [hL] at hlen
        obtain ⟨q, hq⟩ : ∃ q, L.length = q := ⟨_, rfl⟩
        obtain ⟨v1, h1⟩ : ∃ x, onI H.ms H.ds av av = x := ⟨_, rfl⟩
        obtain ⟨v2, h2⟩ : ∃ x, onA H.ms H.ds av = x := ⟨_, rfl⟩
        obtain ⟨v3, h3⟩ : ∃ x, onI H.ms H.ds av (gK (onX H.ms av)) = x := ⟨_, rfl⟩
        obtain ⟨v4, h4⟩ : ∃ x, onI H.ms H.ds av (gT (onX H.ms av)) = x := ⟨_, rfl⟩
        obtain ⟨v5, h5⟩ : ∃ x, onI H.ms H.ds av (gN (onX H.ms av)) = x := ⟨_, rfl⟩
        obtain ⟨v6, h6⟩ : ∃ x, (onK H.ms H.ds av).length = x := ⟨_, rfl⟩
        obtain ⟨v7, h7⟩ : ∃ x, (onV H.ms H.ds av).length = x := ⟨_, rfl⟩
        have HC : Hid (objCs H.ms H.ds av id y1 y2 d1 d2 = [.int .i64 v1, .int .i64 id, .bool v2, .int .i64 v3, .int .i64 v4, .int .i64 v5, .slice y1 v6 d1, .slice y2 v7 d2]) := by
          show _ = _
          rw [objCs, h1, h2, h3, h4, h5, h6, h7]
        rw [h1] at z0
        rw [h2] at z2
        rw [h3] at z3
        rw [h4] at z4
        rw [h5] at z5
        rw [h6] at z6
        rw [h7] at z7
        have g2' := g2
        rw [hq] at g2' hlen zo
        have HG := Lib.hid (And.intro g1 (And.intro g2 (And.intro g3 (And.intro g4 (And.intro g5 (And.intro g6 (And.intro hR1 (And.intro hR2 (And.intro hn1 (And.intro hn2 hGB))))))))))
        have HL := Lib.hid (And.intro hL (And.intro hav (And.intro hmN (And.intro hq (And.intro hltn (And.intro hl' hnl))))))
        have hB0 : w.heap.size ≤ WB.heap.size := by have := (g6 _ g4); omega
        have hown := g2'
        clear g1 g2 g2' g3 g4 g5 g6 hR1 hR2 hn1 hn2 hGB hL hav hmN hm hI hdis hHn hr1 hr2 oB hbA hWA h1 h2 h3 h4 h5 h6 h7 hq hpart
        gi_wp2_with (gi_at_builtin; refine Hid.out ?_)
        refine Lib.hid ?_
        refine wpListIn_append_keep _ rfl _ _ 62 rfl w.heap.size 104 i0 x0 8 96 Tryz.underlying62 hi0 hz0 hz2 hz3 hz1 (by decide) _ _ _ rfl (hown.alloc _) ⟨WB.heap.size, 0, none⟩ 1 1 [.int .i64 v1, .int .i64 id, .bool v2, .int .i64 v3, .int .i64 v4, .int .i64 v5, .slice y1 v6 d1, .slice y2 v7 d2] rfl rfl (cells_newO WB _ _) (by simp [Value.oneCell']) (by show q + 1 ≤ maxLen; simp only [maxLen]; omega) (by omega) (by simp; omega) ?_
        intro v' w3 hown' hg3 hv3
        have hs3 := objsI_snoc (ms := H.ms) (ds := H.ds) (B0 := w.heap.size) (b3 := w.heap.size) (L := L) (G := objGv H av y1 y2) (M := Wn.heap.size) (id := id) HG.out.1 HG.out.2.1 HG.out.2.2.1 HG.out.2.2.2.1 HG.out.2.2.2.2.1 HG.out.2.2.2.2.2.1 HG.out.2.2.2.2.2.2.1 HG.out.2.2.2.2.2.2.2.1
          ((Classical.em (onK H.ms H.ds av = [])).imp_right (fun hne q e => .inl ⟨q, e, hne, rfl⟩)) ((Classical.em (onV H.ms H.ds av = [])).imp_right (fun hne q e => .inr ⟨q, e, hne, rfl⟩)) (fun k hk => ⟨?g1, HG.out.2.2.2.2.2.2.2.2.2.2 k hk, ?g2⟩) (by rw [HC.out, HL.out.2.2.2.1]; exact hown') (by rw [HL.out.2.2.2.1]; exact hg3) (by rw [HL.out.2.2.2.1]; exact hv3)
        case g1 =>
          rcases hk with ⟨q, e, hne, rfl⟩ | ⟨q, e, hne, rfl⟩
          · exact fun hs => (HG.out.2.2.2.2.2.2.2.2.1.resolve_left hne q e).1 (.inl hs)
          · exact fun hs => (HG.out.2.2.2.2.2.2.2.2.2.1.resolve_left hne q e).1 (.inl hs)
        case g2 =>
          rcases hk with ⟨q, e, hne, rfl⟩ | ⟨q, e, hne, rfl⟩
          · exact Nat.lt_of_lt_of_le (HG.out.2.2.2.2.2.2.2.2.1.resolve_left hne q e).2 hWB
          · exact Nat.lt_of_lt_of_le (HG.out.2.2.2.2.2.2.2.2.2.1.resolve_left hne q e).2 hWB
        have HS := Lib.hid hs3
        clear hs3
        obtain ⟨va', vc', rfl, _⟩ := owns_slice hown'
        have g1q : WB.heap[w.heap.size]? = some (.cells #[.slice va q vc] 62 (0, 0)) := by have := HG.out.1; rw [HL.out.2.2.2.1] at this; exact this
        have ho3 : w3.heap[w.heap.size]? = some (.cells #[.slice va q vc] 62 (0, 0)) := (hg3.block _ (by have := heap_lt HG.out.1; simp; omega) (owns_neO hown g1q (by simp)).symm).trans (heap_alloc_lt g1q _)
        have z9 := heap_cell ho3 0
        have f9 := heap_free ho3 0
        simp at z9
        clear hown' hg3 hv3 ho3 g1q hown zo fo z0 z1 z2 z3 z4 z5 z6 z7
        gi_wp2
        obtain ⟨Sx, hx1, hx2⟩ := HS.out
        refine ⟨Sx, hx1, ?_⟩
        rw [← HL.out.1, List.append_assoc] at hx2
        exact hx2
      case done =>
        rintro D xs W5 S5 hD rfl hI5 hg hnD hK
        have hnx : OaInv H w.heap.size w.heap.size w1 (objsTo H (j + 1)) (D :: Ds) W5 := HV.out.next HZ.out.2.1 HZ.out.2.2.1 HZ.out.2.2.2.2.2.1 hg hD hnD hK (by rw [HZ.out.2.2.2.2.1]; exact hI5)
        have HNX := Lib.hid hnx
        clear hnx hg hnD hK hI5
        gi_wp2
        refine ⟨⟨j + 1, D :: Ds, _, _, _, _, _, _, _, _, by omega, HNX, rfl⟩, ?_⟩
        simp [intOf]
        omega
      case stop =>
        rintro D W S _ h
        exact h.elim
    · obtain rfl : j = N := by omega
      obtain ⟨S', ⟨v', flat, o1, o2, o3, o4, o5, o6⟩, j2, j3⟩ := HV.out.j
      have z3 := heap_cell o1 0
      simp at z3
      rw [← HN.out, objsTo_all] at o2 o3
      have hBr : Below w.heap.size w wr := Moved.below H1.out.1 j2.m (by omega) (fun q e => by omega)
      obtain ⟨va, vc, rfl, _⟩ := owns_slice o2
      have HF := Lib.hid (And.intro o2 (And.intro o3 (And.intro o5 (And.intro o6 (And.intro j3 hBr)))))
      clear o1 o2 o3 o4 o5 o6 j2 j3 hBr
      gi_wp2
      refine leaves_marks Ds _ HV.out.nd HV.out.ds (fun w' hm => ?_)
      refine ⟨_, results_tmp rfl _ _ _, .slice va (objsL H).length vc, S', rfl, ⟨flat, owns_base (hm.owns HF.out.1 (fun k hk e => HF.out.2.2.2.2.1 k e (HF.out.2.2.1 k hk))) (Nat.zero_le _), HF.out.2.1.turn hm (fun q _ e hs => absurd hs (HF.out.2.2.2.2.1 q e)) (fun _ h => h) (fun _ _ _ h => h.elim), HF.out.2.2.1, fun k hk => Nat.lt_of_lt_of_le (HF.out.2.2.2.1 k hk).2 hm.size⟩, ?_, fun k hk => (HF.out.2.2.2.1 k hk).1⟩
      exact Moved.below HF.out.2.2.2.2.2 hm (by have := HF.out.2.2.2.2.2.size; omega) (fun q e => by have := HV.out.ge q e; omega)
end Go.Proofs.YtcenagpkfimkbaaGreatDoor
