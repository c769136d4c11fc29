/-
  Contracts of functions of the program, laid together.
-/
import Derived.Test.YtcenagpkfimkbaaGreatDoorTopSlotsM5
import Derived.Test.YtcenagpkfimkbaaGreatDoorTopSlotsM8
import Derived.Test.YtcenagpkfimkbaaGreatDoorTopSlotsM9
import Derived.Test.YtcenagpkfimkbaaGreatDoorTopSlotsM10
import Derived.Deep.AppendLies
namespace Go.Proofs.YtcenagpkfimkbaaGreatDoor
open Go Go.RowKit

def selK (m : IM Int) (id : Int) (done : List Int) : List Int := done.filter fun x => decide (at0 m x = id)
def kidsL (m : IM Int) (id : Int) : List Int := (m.filter fun p => decide (p.2 = id)).map (·.1)
structure KInv (w wr : World) (mb : Nat) (m : IM Int) (id : Int) (done : List Int) (v : Value) : Prop where
  it : IterAt .i64 3 wr mb w.heap.size (mapV (Value.int .i64) m) done
  bl : Below w.heap.size w wr
  own : wr.ownsRow (w.heap.size + 1) 3 1 v (selK m id done).length ((selK m id done).map (Value.int .i64))
  sz : w.heap.size < wr.heap.size
  mbl : mb < w.heap.size

theorem selK_no {m : IM Int} {id : Int} {done : List Int} {x : Int} (h : at0 m x ≠ id) : selK m id (done ++ [x]) = selK m id done := by
  unfold selK; rw [List.filter_append]; simp [h]
theorem selK_yes {m : IM Int} {id : Int} {done : List Int} {x : Int} (h : at0 m x = id) : selK m id (done ++ [x]) = selK m id done ++ [x] := by
  unfold selK; rw [List.filter_append]; simp [h]
section
variable {w wr w2 w3 : World} {mb : Nat} {m : IM Int} {id : Int} {done : List Int} {v : Value} {x : Int}
theorem KInv.next (h : KInv w wr mb m id done v) (hit : IterAt .i64 3 w2 mb w.heap.size (mapV (Value.int .i64) m) (done ++ [x])) (hg : wr.grownBy w2 (some w.heap.size)) (hs : w2.heap.size = wr.heap.size) :
    IterAt .i64 3 w2 mb w.heap.size (mapV (Value.int .i64) m) (done ++ [x]) ∧ Below w.heap.size w w2 ∧ w2.ownsRow (w.heap.size + 1) 3 1 v (selK m id done).length ((selK m id done).map (Value.int .i64)) ∧ w.heap.size < w2.heap.size := by
  have hm : Moved (fun k => k = w.heap.size) wr w2 := Moved.of_grown hg (S := fun k => k = w.heap.size) (fun k e => by cases e; rfl)
  refine ⟨hit, ⟨hg.os.trans h.bl.os, hg.tape.trans h.bl.tape, hg.output.trans h.bl.output, by rw [hs]; exact h.bl.size, fun k hk => ?_⟩, hm.owns h.own (fun k hk e => ?_), by rw [hs]; exact h.sz⟩
  · rw [hg.block k (by have := h.bl.size; omega) (by simp; omega)]
    exact h.bl.block k hk
  · have := (h.own.lt k hk).1
    omega
theorem sel_len (h : KInv w wr mb m id done v) (hl : m.length ≤ 1000000) : (selK m id done).length ≤ 1000000000 := by
  have h1 : done.length ≤ (m.map (·.1)).length := by
    have hr : Rising m := (rising_mapV _ _).1 h.it.map.2
    have hn : (m.map (·.1)).Nodup := (List.pairwise_map.2 hr : (m.map (·.1)).Pairwise (fun a c => a < c)).imp (fun h => by omega)
    have hp : done.Perm ((m.map (·.1)).filter (fun x => done.contains x)) := by
      refine (List.perm_ext_iff_of_nodup h.it.nodup (hn.filter _)).2 fun x => ⟨fun hx => ?_, fun hx => ?_⟩
      · obtain ⟨u, hu⟩ := Option.isSome_iff_exists.1 (h.it.has x hx)
        rw [lk_mapV] at hu
        cases hm : lk m x with
        | none => rw [hm] at hu; cases hu
        | some y => exact List.mem_filter.2 ⟨List.mem_map.2 ⟨(x, y), (lk_some hr).1 hm, rfl⟩, List.contains_iff_mem.2 hx⟩
      · exact List.contains_iff_mem.1 (List.mem_filter.1 hx).2
    rw [hp.length_eq]
    exact List.length_filter_le _ _
  have h2 : (selK m id done).length ≤ done.length := List.length_filter_le _ _
  simp at h1
  omega
theorem sel_all (h : KInv w wr mb m id done v) (ha : ∀ x, (lk (mapV (Value.int .i64) m) x).isSome = true → x ∈ done) : ((selK m id done).mergeSort fun x y => decide (x ≤ y)) = kidsL m id := by
  have hr : Rising m := (rising_mapV _ _).1 h.it.map.2
  have hp := h.it.all ha
  have e1 : (mapV (Value.int .i64) m).map (·.1) = m.map (·.1) := by simp [mapV]
  rw [e1] at hp
  have e2 : (m.map (·.1)).filter (fun x => decide (at0 m x = id)) = kidsL m id := by
    unfold kidsL
    rw [List.filter_map]
    congr 1
    apply List.filter_congr
    intro p hp
    have : lk m p.1 = some p.2 := (lk_some hr).2 hp
    simp [at0, this]
  refine sort_rising ((hp.filter _).trans (by rw [e2])) ?_
  have : (m.map (·.1)).Pairwise (fun a c => a < c) := List.pairwise_map.2 hr
  rw [← e2]
  exact this.filter _
theorem below_row (h : Below w.heap.size w wr) (hg : wr.grownBy w3 v.ownBlock) (hv : ∀ k, v.ownBlock = some k → w.heap.size ≤ k) : Below w.heap.size w w3 :=
  ⟨hg.os.trans h.os, hg.tape.trans h.tape, hg.output.trans h.output, Nat.le_trans h.size hg.size, fun k hk => (hg.block k (Nat.lt_of_lt_of_le hk h.size) (fun e => by have := hv k e.symm; omega)).trans (h.block k hk)⟩
theorem owns_low {B B' : Nat} {t : TypeId} {size n : Nat} {v : Value} {xs : List Value} (h : w.ownsRow B t size v n xs) (hb : B' ≤ B) : w.ownsRow B' t size v n xs :=
  ⟨h.1, h.2.elim .inl fun ⟨g, cap, cur, hv, hg, r⟩ => .inr ⟨g, cap, cur, hv, Nat.le_trans hb hg, r⟩⟩
theorem KInv.app {v' : Value} {o : Obj} (hit : IterAt .i64 3 w2 mb w.heap.size (mapV (Value.int .i64) m) (done ++ [x])) (hbl : Below w.heap.size w w2) (hown : w2.ownsRow (w.heap.size + 1) 3 1 v (selK m id done).length ((selK m id done).map (Value.int .i64))) (hsz : w.heap.size < w2.heap.size) (hmb : mb < w.heap.size) (hx : at0 m x = id)
    (ho : w3.ownsRow (w.heap.size + 1) 3 1 v' ((selK m id done).length + 1) ((selK m id done).map (Value.int .i64) ++ [.int .i64 x])) (hg : (w2.alloc o).grownBy w3 v.ownBlock) : KInv w w3 mb m id (done ++ [x]) v' := by
  have hv : ∀ k, v.ownBlock = some k → w.heap.size + 1 ≤ k := fun k hk => (hown.lt k hk).1
  have hw2 : (w2.alloc o).heap.size = w2.heap.size + 1 := by simp
  refine ⟨(hit.moved (World.grownBy_alloc w2 o none) (by simp) (by simp)).moved hg (fun e => by have := hv _ e.symm; omega) (fun e => by have := hv _ e.symm; omega), below_row (wr := w2.alloc o) (hbl.alloc (by omega) _) hg (fun k hk => by have := hv k hk; omega), by rw [selK_yes hx]; simpa using ho, by have := hg.size; omega, hmb⟩
theorem left_app {o : Obj} (hown : w2.ownsRow (w.heap.size + 1) 3 1 v (selK m id done).length ((selK m id done).map (Value.int .i64))) (hsz : w.heap.size < w2.heap.size) (hmb : mb < w.heap.size) (hg : (w2.alloc o).grownBy w3 v.ownBlock) : w3.rangeLeft mb w.heap.size = w2.rangeLeft mb w.heap.size := by
  have hv : ∀ k, v.ownBlock = some k → w.heap.size + 1 ≤ k := fun k hk => (hown.lt k hk).1
  have key : ∀ k, k ≤ w.heap.size → w3.heap[k]? = w2.heap[k]? := fun k hk => by
    rw [hg.block k (by simp; omega) (fun e => by have := hv k e.symm; omega), (World.grownBy_alloc w2 o none).block k (by omega) (by simp)]
  unfold World.rangeLeft
  rw [key mb (by omega), key _ (Nat.le_refl _)]
theorem row_new (h : KInv w wr mb m id done v) : ∀ k, v.ownBlock = some k → w.heap.size ≤ k := fun k hk => by
  have := (h.own.lt k hk).1
  omega
end
set_option maxRecDepth 100000 in
set_option maxHeartbeats 2000000 in
theorem trKids_any {tb mb : Nat} {m : IM Int} {w : World} (h : TreeAt w tb mb m) (id : Int) (hl : m.length ≤ 1000000) :
    Calls Tryz.prog 106 #[.pointer (some ⟨tb, 0, none⟩), .int .i64 id] w fun e w' => ∃ v, e = .returned v ∧ Below w.heap.size w w' ∧ w'.ownsRow w.heap.size 3 1 v (kidsL m id).length ((kidsL m id).map (Value.int .i64)) := by
  have c0 := heap_cell h.blk 0
  simp at c0
  obtain ⟨w1, hr1, hi1, hg1, hs1⟩ := h.map.range Tryz.underlying3 Tryz.underlying61
  have HI : Hid (KInv w w1 mb m id [] (.slice none 0 0)) := Lib.hid ⟨hi1, ⟨hg1.os, hg1.tape, hg1.output, hg1.size, fun k hk => hg1.block k hk (by simp)⟩, World.ownsRow_nil _ _ _ _, by omega, h.map.lt⟩
  clear hi1 hg1 hs1
  go_enter Tryz.func106, Tryz.ntmps106
  go_wp2
  go_loopw [5, 6, 7] (fun o _ _ wr => ∃ done, Hid (KInv w wr mb m id done o)) (fun _ _ _ wr => wr.rangeLeft mb w.heap.size)
  case atStart => exact ⟨[], HI⟩
  case round =>
    obtain ⟨done, HV⟩ := hrel
    rcases HV.out.it.next Tryz.underlying3 0 with ⟨hall, hrun⟩ | ⟨x, u, w2, hu, hnd, hwf, hrun, hit, hg, hsz, hen, hlt⟩
    · have hp := sel_all HV.out hall
      have hS := SortOwn_any _ _ _ wr HV.out.own (sel_len HV.out hl)
      have HP := Lib.hid hp
      clear hall hp
      go_wp2_with fail
      refine hS.mono ?_
      rintro e w3 ⟨rfl, hg3, ho3⟩
      clear hS hrun
      rw [HP.out, show (selK m id done).length = (kidsL m id).length by rw [← HP.out]; simp] at ho3
      have H3 := Lib.hid (And.intro hg3 ho3)
      clear hg3 ho3
      go_wp2
      go_ret
      have hbk := row_new HV.out
      exact ⟨_, rfl, below_row HV.out.bl H3.out.1 hbk, owns_low H3.out.2 (by omega)⟩
    · obtain ⟨y, hy⟩ : ∃ y, u = .int .i64 y ∧ at0 m x = y ∧ (lk m x).isSome = true := by
        rw [lk_mapV] at hu
        cases hm : lk m x with
        | none => rw [hm] at hu; cases hu
        | some y => rw [hm] at hu; exact ⟨y, by simpa using hu.symm, by rw [at0, hm]; rfl, rfl⟩
      obtain ⟨rfl, hya, hys⟩ := hy
      have H2 := Lib.hid (KInv.next HV.out hit hg hsz)
      have HL := Lib.hid hlt
      clear hu hnd hit hg hlt hsz
      by_cases e : y = id
      · have y1 : (y == id) = true := by simpa using e
        obtain ⟨i0, hi0, hz0, hz1, hz2⟩ := info_parts info_int
        have hlen := sel_len HV.out hl
        have HN2 := Lib.hid (And.intro hlen (And.intro hya e))
        have hw2 := H2.out.2.2.2
        clear hya hys e hlen
        go_wp2_with (at_builtin; refine Hid.out ?_)
        refine Lib.hid ?_
        (refine wpList_append_keep _ rfl _ _ 58 rfl (w.heap.size + 1) 3 i0 (.int .i64 0) 1 8 Tryz.underlying58 hi0 hz0 hz1 hz2 rfl (by decide) _ _ _ rfl (H2.out.2.2.1.alloc _) ⟨w2.heap.size, 0, none⟩ 1 1 [.int .i64 x] rfl (by rfl) (World.news_of_block (cs := #[.int .i64 x]) (t := 3) (fr := (0, 0)) (heap_alloc_new w2 _)) (by simp [Value.oneCell']) (by have := HN2.out.1; unfold maxLen; omega) (by have := HN2.out.1; omega) (by simp; omega) ?_; intro v' w4 ho4 hg4 hk4)
        have hk5 : KInv w w4 mb m id (done ++ [x]) v' := KInv.app H2.out.1 H2.out.2.1 H2.out.2.2.1 H2.out.2.2.2 HV.out.mbl (HN2.out.2.1.trans HN2.out.2.2) ho4 hg4
        have HK5 := Lib.hid hk5
        have HL4 := Lib.hid (left_app H2.out.2.2.1 H2.out.2.2.2 HV.out.mbl hg4)
        clear hk5 ho4 hg4 hk4
        go_wp2
        go_roundw
        case rel => exact ⟨done ++ [x], HK5⟩
        case measure => rw [HL4.out]; exact HL.out
      · have y1 : (y == id) = false := by simpa using e
        have HN : Hid (KInv w w2 mb m id (done ++ [x]) u5) := Lib.hid (by
          have := H2.out
          exact ⟨this.1, this.2.1, by rw [selK_no (by rw [hya]; exact e)]; exact this.2.2.1, this.2.2.2, HV.out.mbl⟩)
        clear hya hys e
        go_wp2
        go_roundw
        case rel => exact ⟨done ++ [x], HN⟩
        case measure => exact HL.out
end Go.Proofs.YtcenagpkfimkbaaGreatDoor
namespace Go.Proofs.YtcenagpkfimkbaaGreatDoor
open Go Go.RowKit Go.Shelf

attribute [local go_sem] Oper.semAt_some
@[local go_sem] theorem wide_fnC (f : FuncId) : Fence.wide.fn f = True := rfl

def OneInt : Int → Array Value → HP := fun x args _ _ => args = #[.int .i64 x]

def ASeq (b : Nat) (pre : List Int) : HP := fun W S => ∃ v, W.heap[b]? = some (.cells #[v] 58 (0, 0)) ∧ W.ownsRow (b + 1) 3 1 v pre.length (pre.map (Value.int .i64)) ∧ ∀ k, S k ↔ k = b ∨ v.ownBlock = some k
theorem ASeq.ok (b : Nat) (pre : List Int) : (ASeq b pre).Ok := by
  constructor
  · rintro w w' S T ⟨v, h1, h2, hs⟩ hm hd
    exact ⟨v, hm.heap h1 (hd _ ((hs _).2 (.inl rfl))), hm.owns h2 (fun k hk => hd k ((hs k).2 (.inr hk))), hs⟩
  · rintro w S ⟨v, h1, h2, hs⟩ k hk
    rcases (hs k).1 hk with rfl | h
    · exact heap_lt h1
    · exact (h2.lt k h).2
theorem noHP_ok : HP.Ok (fun _ _ => False) := ⟨fun h _ _ => h, fun h _ _ => h.elim⟩

set_option maxRecDepth 100000 in
set_option maxHeartbeats 2000000 in
theorem appendSeq_any {gf : FuncId} {lb : Array Value} (eg : ∀ args w, (callFunc gf args).run Tryz.prog w = .ok (.enter gf args) w) {Part Fin : List Int → Prop} {Pre : HP} (hh : Hands Tryz.prog gf lb OneInt Part Fin Pre)
    (w : World) (hlen : ∀ pre, Part pre → pre.length ≤ 1000000) (hpre : ∀ (W : World) (S : Nat → Prop), Below w.heap.size w W → (∀ k, S k → w.heap.size ≤ k) → Pre W S) :
    Calls Tryz.prog 227 #[.slice none 0 0, .func (.func gf) #[] lb] w fun e w' => ∃ v xs, e = .returned v ∧ Fin xs ∧ Below w.heap.size w w' ∧ w'.ownsRow w.heap.size 3 1 v xs.length (xs.map (Value.int .i64)) := by
  refine (callsIn_wide (n := 3)).1 ?_
  refine callsIn_of_wp_marks Tryz.func227 rfl trivial ?_ rfl
  simp only [Tryz.ntmps227, List.size_toArray, List.length_cons, List.length_nil, Nat.reduceAdd, Nat.reduceSub, Array.replicate_succ, Array.replicate_zero, List.push_toArray, List.append_toArray, List.nil_append, List.cons_append]
  have HPR := Lib.hid (And.intro hlen hpre)
  clear hlen hpre
  gi_wp2
  have hb0 : Below w.heap.size w (w.alloc (.cells #[.slice none 0 0] 58)) := (Below.refl _ _).alloc (Nat.le_refl _) _
  refine wpIn_range_hp (by omega) (gf := gf) (lb := lb) rfl eg hh (ASeq w.heap.size) (fun _ _ => False) (ASeq.ok _) noHP_ok (fun k => k = w.heap.size) ⟨_, heap_alloc_eq _ _, World.ownsRow_nil _ _ _ _, fun k => by simp [Value.ownBlock]⟩
    (fun x args W S h => by rw [h]; rfl) (fun W S hb hs => HPR.out.2 W S (hb0.trans (hb.mono hb0.size)) (fun k hk => by have := hb0.size; rcases hs k hk with h | h <;> omega))
    (fun args _ a' _ => ∃ x : Int, args = #[.int .i64 x] ∧ a' = { tmps := #[.slice none 0 0, .func (.func gf) #[] lb, .pointer (some ⟨w.heap.size, 0, none⟩), undef, .slice none 0 0, .int .i64 x, .func (.func gf) #[] lb, .int .i64 x, undef, undef, undef, undef, undef], defers := [] })
    (fun _ _ _ _ _ _ _ h => h) ?assign ?body ?done ?stop
  case assign =>
    rintro l x args W S K rfl hK
    gi_wp2
    exact hK _ _ (Below.refl _ _) ⟨x, rfl, rfl⟩
  case body =>
    rintro l D pre x args W S WB a' hpart rfl hm ⟨x', hx, rfl⟩ ⟨v, h1, h2, hs⟩ hlt
    obtain rfl : x = x' := by simpa using hx
    have c0 := heap_cell h1 0
    have f0 := heap_free h1 0
    simp at c0
    have hln := HPR.out.1 _ hpart
    simp at hln
    obtain ⟨i0, hi0, hz0, hz1, hz2⟩ := info_parts info_int
    obtain ⟨a, c, rfl, _⟩ := owns_slice h2
    have H2 := Lib.hid (And.intro h1 (And.intro h2 (And.intro hs (And.intro hlt hm))))
    have hwb := heap_lt h1
    have hown := h2
    clear h1 h2 hs hlt hm hx hpart
    gi_wp2_with (gi_at_builtin; refine Hid.out ?_)
    refine Lib.hid ?_
    refine wpListIn_append_keep _ rfl _ _ 58 rfl (w.heap.size + 1) 3 i0 (.int .i64 0) 1 8 Tryz.underlying58 hi0 hz0 hz1 hz2 rfl (by decide) _ _ _ rfl (hown.alloc _) ⟨WB.heap.size, 0, none⟩ 1 1 [.int .i64 x] rfl (by rfl) (World.news_of_block (cs := #[.int .i64 x]) (t := 3) (fr := (0, 0)) (heap_alloc_new WB _)) (by simp [Value.oneCell']) (by unfold maxLen; omega) (by omega) (by simp; omega) ?_
    intro v' w4 ho4 hg4 hk4
    obtain ⟨a', c', rfl, _⟩ := owns_slice ho4
    have ow := H2.out.2.1
    have hvb : ∀ k, (Value.slice a pre.length c).ownBlock = some k → w.heap.size + 1 ≤ k := fun k hk => (ow.lt k hk).1
    have o4 : w4.heap[w.heap.size]? = some (.cells #[.slice a pre.length c] 58 (0, 0)) := (hg4.block _ (by simp; omega) (fun e => by have := hvb _ e.symm; omega)).trans (heap_alloc_lt H2.out.1 (.cells #[.int .i64 x] 3))
    have z0 := heap_cell o4 0
    have y0 := heap_free o4 0
    simp at z0
    have hT : ∀ k, (Value.slice a pre.length c).ownBlock = some k → S k := fun k hk => (H2.out.2.2.1 k).2 (.inr hk)
    have HF : Hid (BodyEnd (fun k => S k ∨ W.heap.size ≤ k) (ASeq w.heap.size (pre ++ [x])) (fun _ _ => False) WB .normal { tmps := #[], defers := [] } (w4.setCell ⟨w.heap.size, 0, none⟩ (.slice a' (pre.length + 1) c'))) := by
      refine Lib.hid ⟨fun k => k = w.heap.size ∨ (Value.slice a' (pre.length + 1) c').ownBlock = some k, ⟨((Moved.alloc _ WB _).trans (.of_grown hg4 (S := fun k => S k ∨ W.heap.size ≤ k) (fun k e => .inl (hT k e))) (fun q e => .inl e)).trans (.of_set w4 _ 0 (.slice a' (pre.length + 1) c') (.inl ((H2.out.2.2.1 _).2 (.inl rfl)))) (fun q e => .inl e), fun k hk => ?_⟩, .slice a' (pre.length + 1) c', Boxed.set (t := 58) _ o4, ?_, fun k => Iff.rfl⟩
      · rcases hk with rfl | hk
        · exact .inl (.inl ((H2.out.2.2.1 _).2 (.inl rfl)))
        · rcases hk4 with h | h
          · exact .inl (.inl (hT k (h ▸ hk)))
          · have := h k hk; simp at this; exact .inr (by omega)
      · have := (Moved.of_set (S := fun q => q = w.heap.size) w4 w.heap.size 0 (.slice a' (pre.length + 1) c') rfl).owns ho4 (fun k hk e => by have := (ho4.lt k hk).1; omega)
        rw [List.map_append, List.length_append]
        exact this
    clear ho4 hg4 hk4 o4 hT hown hvb ow
    gi_wp2
    exact HF.out
  case done =>
    rintro D xs W S hD hF ⟨v, h1, h2, hs⟩ hg hnD hK
    have c0 := heap_cell h1 0
    simp at c0
    obtain ⟨a, c, rfl, _⟩ := owns_slice h2
    have hne : D ≠ w.heap.size := fun e => hnD ((hs D).2 (.inl e))
    have hno : ∀ k, (Value.slice a xs.length c).ownBlock = some k → ¬ k = D := fun k hk e => hnD ((hs D).2 (.inr (e ▸ hk)))
    have hb : Below w.heap.size w (W.putObj D (.deferred none)) := by
      have h5 := hg.m
      have : Moved (fun k => k = w.heap.size) w W := (Moved.of_below hb0 _).trans h5 (fun q e => .inl e)
      have h7 := this.trans (.of_grown (grownBy_putObj' W D (.deferred none)) (S := fun k => k = D) (fun k e => by cases e; rfl)) (fun q e => .inr (by have := hb0.size; omega))
      exact Moved.below (Below.refl w.heap.size w) h7 (Nat.le_refl _) (fun q e => by omega)
    have ho : (W.putObj D (.deferred none)).ownsRow w.heap.size 3 1 (.slice a xs.length c) xs.length (xs.map (Value.int .i64)) :=
      owns_low ((Moved.of_grown (grownBy_putObj' W D (.deferred none)) (S := fun k => k = D) (fun k e => by cases e; rfl)).owns h2 hno) (by omega)
    have HF := Lib.hid (And.intro hb ho)
    have HK := Lib.hid hK
    clear h1 h2 hs hg hnD hK hb ho hne hno
    gi_wp2
    refine ⟨by simp, .inl ⟨_, _, rfl, run_takeDeferred HK.out, ?_⟩⟩
    refine ⟨_, results_tmp rfl _ _ _, _, xs, rfl, hF, HF.out.1, (by exact HF.out.2)⟩
  case stop =>
    rintro D W S _ h
    exact h.elim

theorem collect_any {gf : FuncId} {lb : Array Value} (eg : ∀ args w, (callFunc gf args).run Tryz.prog w = .ok (.enter gf args) w) {Part Fin : List Int → Prop} {Pre : HP} (hh : Hands Tryz.prog gf lb OneInt Part Fin Pre)
    (w : World) (hlen : ∀ pre, Part pre → pre.length ≤ 1000000) (hpre : ∀ (W : World) (S : Nat → Prop), Below w.heap.size w W → (∀ k, S k → w.heap.size ≤ k) → Pre W S) :
    Calls Tryz.prog 212 #[.func (.func gf) #[] lb] w fun e w' => ∃ v xs, e = .returned v ∧ Fin xs ∧ Below w.heap.size w w' ∧ w'.ownsRow w.heap.size 3 1 v xs.length (xs.map (Value.int .i64)) := by
  have h := appendSeq_any eg hh w hlen hpre
  clear hlen hpre hh eg
  go_enter Tryz.func212, Tryz.ntmps212
  go_wp2_with fail
  refine h.mono ?_
  rintro e w1 ⟨v, xs, rfl, hF, hb, ho⟩
  have HF := Lib.hid (And.intro hF (And.intro hb ho))
  clear h hF hb ho
  go_wp2
  go_ret
  exact ⟨v, xs, rfl, HF.out⟩

theorem sorted_any {gf : FuncId} {lb : Array Value} (eg : ∀ args w, (callFunc gf args).run Tryz.prog w = .ok (.enter gf args) w) {Part Fin : List Int → Prop} {Pre : HP} (hh : Hands Tryz.prog gf lb OneInt Part Fin Pre)
    (w : World) (hlen : ∀ pre, Part pre → pre.length ≤ 1000000) (hfl : ∀ xs, Fin xs → xs.length ≤ 1000000) (hpre : ∀ (W : World) (S : Nat → Prop), Below w.heap.size w W → (∀ k, S k → w.heap.size ≤ k) → Pre W S) :
    Calls Tryz.prog 183 #[.func (.func gf) #[] lb] w fun e w' => ∃ v xs, e = .returned v ∧ Fin xs ∧ Below w.heap.size w w' ∧ w'.ownsRow w.heap.size 3 1 v xs.length ((xs.mergeSort fun x y => decide (x ≤ y)).map (Value.int .i64)) := by
  have h := collect_any eg hh w hlen hpre
  have HL := Lib.hid hfl
  clear hlen hpre hh eg hfl
  go_enter Tryz.func183, Tryz.ntmps183
  go_wp2_with fail
  refine h.mono ?_
  rintro e w1 ⟨v, xs, rfl, hF, hb, ho⟩
  have hS := SortOwn_any _ _ _ w1 ho (by have := HL.out xs hF; omega)
  have HF := Lib.hid (And.intro hF (And.intro hb ho))
  obtain ⟨a, c, rfl, _⟩ := owns_slice ho
  clear h hF hb ho
  go_wp2_with fail
  refine hS.mono ?_
  rintro e w3 ⟨rfl, hg3, ho3⟩
  have H3 := Lib.hid (And.intro hg3 ho3)
  clear hS hg3 ho3
  go_wp2
  go_ret
  refine ⟨_, xs, rfl, HF.out.1, ?_, H3.out.2⟩
  exact below_row HF.out.2.1 H3.out.1 (fun k hk => (HF.out.2.2.lt k hk).1)

/-! ### maps.Keys -/
theorem keys_any (mb : Nat) (w : World) : Calls Tryz.prog 184 #[.map (some mb)] w fun e w' => e = .returned (.func (.func 213) #[] #[.pointer (some ⟨w.heap.size, 0, none⟩)]) ∧ w' = w.alloc (.cells #[.map (some mb)] 61) := by
  go_enter Tryz.func184, Tryz.ntmps184
  go_wp2
  go_ret
  exact ⟨rfl, rfl⟩
end Go.Proofs.YtcenagpkfimkbaaGreatDoor
namespace Go.Proofs.YtcenagpkfimkbaaGreatDoor
open Go Go.RowKit Go.Shelf

attribute [local go_sem] Oper.semAt_some
@[local go_sem] theorem wide_fnK (f : FuncId) : Fence.wide.fn f = True := rfl

theorem IterAt.moved_ {q : IntKind} {k : TypeId} {w w' : World} {b r : Nat} {m : IM Value} {done : List Int} {T : Nat → Prop} (h : IterAt q k w b r m done) (hm : Moved T w w') (hb : ¬ T b) (hr : ¬ T r) : IterAt q k w' b r m done := by
  obtain ⟨left, cnt, h1, h2⟩ := h.rg
  obtain ⟨es, clock, since, seen, c0, hb1, F, hs, hD, hr1, rest⟩ := h1
  exact ⟨h.map.moved hm hb, h.nodup, h.has, left, cnt, ⟨es, clock, since, seen, c0, hm.heap hb1 hb, F, hs, hD, hm.heap hr1 hr, rest⟩, h2⟩
theorem rangeLeft_of {w w' : World} {b r : Nat} (h1 : w'.heap[b]? = w.heap[b]?) (h2 : w'.heap[r]? = w.heap[r]?) : w'.rangeLeft b r = w.rangeLeft b r := by
  unfold World.rangeLeft
  rw [h1, h2]
theorem HP.Ok.grown {p : HP} (o : p.Ok) {w w' : World} {S : Nat → Prop} {row : Option Nat} (h : p w S) (hg : w.grownBy w' row) (hr : ∀ k, row = some k → ¬ S k) : p w' S :=
  o.moved h (Moved.of_grown hg (S := fun k => row = some k) (fun _ e => e)) (fun _ hk e => hr _ e hk)

def KeysPart (m : IM Value) (pre : List Int) : Prop := pre.Nodup ∧ ∀ x ∈ pre, (lk m x).isSome = true
def KeysPre (Bm mb : Nat) (m : IM Value) : HP := fun W S => W.heap[Bm]? = some (.cells #[.map (some mb)] 61 (0, 0)) ∧ MapAt .i64 3 W mb m ∧ ¬ S Bm ∧ ¬ S mb

structure KeysInv (J : List Int → HP) (S : Nat → Prop) (W : World) (mb r : Nat) (m : IM Value) (done : List Int) (wr : World) : Prop where
  j : ∃ S', J done wr S' ∧ Grows S S' W wr ∧ ¬ S' r ∧ ¬ S' mb
  it : IterAt .i64 3 wr mb r m done

set_option maxRecDepth 100000 in
set_option maxHeartbeats 2000000 in
theorem keys_hands (Bm mb : Nat) (m : IM Value) : Hands Tryz.prog 213 #[.pointer (some ⟨Bm, 0, none⟩)] OneInt (KeysPart m) (fun xs => xs.Perm (m.map (·.1))) (KeysPre Bm mb m) := by
  intro l J Jx hJ hJx hY W S h0 hP
  obtain ⟨hB, hM, nB, nM⟩ := hP
  have c0 := heap_cell hB 0
  simp at c0
  obtain ⟨w1, hr1, hi1, hg1, hs1⟩ := hM.range Tryz.underlying3 Tryz.underlying61
  have hlt := (hJ []).lt h0
  have HI : Hid (KeysInv J S W mb W.heap.size m [] w1) := Lib.hid ⟨⟨S, (hJ []).grown h0 hg1 (fun k e => by cases e), ⟨Moved.of_grown hg1 (fun k e => by cases e), fun k hk => .inl hk⟩, fun e => by have := hlt _ e; omega, nM⟩, hi1⟩
  have HY := Lib.hid hY
  have HS := Lib.hid (And.intro nM hM.lt)
  clear hi1 hg1 hs1 hY h0 hB hM nB nM
  refine (callsIn_wide (n := 3)).1 ?_
  refine callsIn_of_wp Tryz.func213 rfl trivial ?_ rfl
  simp only [Tryz.ntmps213, List.size_toArray, List.length_cons, List.length_nil, Nat.reduceAdd, Nat.reduceSub, Array.replicate_succ, Array.replicate_zero, List.push_toArray, List.append_toArray, List.nil_append, List.cons_append]
  gi_wp2
  gi_loopw [6] (fun _ wr => ∃ done, Hid (KeysInv J S W mb W.heap.size m done wr)) (fun _ wr => wr.rangeLeft mb W.heap.size)
  case atStart => exact ⟨[], HI⟩
  case round =>
    obtain ⟨done, HV⟩ := hrel
    rcases HV.out.it.next Tryz.underlying3 0 with ⟨hall, hrun⟩ | ⟨x, u, w2, hu, hnd, hwf, hrun, hit, hg, hsz, hen, hlt2⟩
    · have hp := HV.out.it.all hall
      have HP := Lib.hid hp
      clear hall hp
      gi_wp2
      refine bodyPost_ret (results_none rfl _ _ _) rfl ?_
      obtain ⟨S', h1, h2, h3, h4⟩ := HV.out.j
      exact ⟨⟨_, rfl⟩, S', h2, .inl ⟨done, HP.out, h1⟩⟩
    · obtain ⟨S', j1, j2, j3, j4⟩ := HV.out.j
      have hJ2 := (hJ done).grown j1 hg (fun k e => by cases e; exact j3)
      have hpart : KeysPart m (done ++ [x]) := ⟨hit.nodup, hit.has⟩
      have hy := yield_any (m := 2) (HY.out done x #[.int .i64 x] w2 S' hpart rfl hJ2)
      obtain ⟨fn, tmps, assign, body, hy, hR⟩ := hy
      have hgr : Grows S S' W w2 := ⟨j2.m.trans (Moved.of_grown hg (S := fun k => k = W.heap.size) (fun k e => by cases e; rfl)) (fun q e => .inr (by omega)), fun k hk => j2.s k hk⟩
      have HZ := Lib.hid (And.intro hit (And.intro hgr (And.intro j3 (And.intro j4 (And.intro hlt2 hsz)))))
      have hrl : W.heap.size < w2.heap.size := by have := (heap_lt (hit.rg.choose_spec.choose_spec.1).iter_walk.choose_spec.1); exact this
      have hml : mb < w2.heap.size := hit.map.lt
      clear hu hnd hit hg hlt2 hsz hJ2 hpart j1 j2 j3 j4 hgr
      gi_wp2
      refine hR.mono ?_
      rintro e W3 ⟨S3, hg3, (⟨rfl, hJ3⟩ | ⟨rfl, hJx3⟩)⟩
      · have n1 : ¬ S3 W.heap.size := fun e => (hg3.s _ e).elim HZ.out.2.2.1 (fun e => by omega)
        have n2 : ¬ S3 mb := fun e => (hg3.s _ e).elim HZ.out.2.2.2.1 (fun e => by omega)
        have HN : Hid (KeysInv J S W mb W.heap.size m (done ++ [x]) W3) := Lib.hid ⟨⟨S3, hJ3, HZ.out.2.1.trans hg3, n1, n2⟩, HZ.out.1.moved_ hg3.m HZ.out.2.2.2.1 HZ.out.2.2.1⟩
        have HL : Hid (W3.rangeLeft mb W.heap.size = w2.rangeLeft mb W.heap.size) := Lib.hid (rangeLeft_of (hg3.m.block _ hml HZ.out.2.2.2.1) (hg3.m.block _ hrl HZ.out.2.2.1))
        clear hg3 hJ3 n1 n2
        gi_wp2
        go_roundw
        case rel => exact ⟨done ++ [x], HN⟩
        case measure => rw [HL.out]; exact HZ.out.2.2.2.2.1
      · have HF := Lib.hid (And.intro (HZ.out.2.1.trans hg3) hJx3)
        clear hg3 hJx3
        gi_wp2
        refine bodyPost_ret (results_none rfl _ _ _) rfl ?_
        exact ⟨⟨_, rfl⟩, S3, HF.out.1, .inr HF.out.2⟩
end Go.Proofs.YtcenagpkfimkbaaGreatDoor
namespace Go.Proofs.YtcenagpkfimkbaaGreatDoor
open Go Go.RowKit Go.Shelf

def idxOf : List Int → Int → Int
  | [], _ => -1
  | y :: r, x => if y = x then 0 else if idxOf r x < 0 then -1 else idxOf r x + 1
theorem idxOf_lo (xs : List Int) (x : Int) : -1 ≤ idxOf xs x ∧ idxOf xs x < xs.length := by
  induction xs with
  | nil => simp [idxOf]
  | cons y r ih =>
    rw [List.length_cons]
    by_cases h1 : y = x
    · rw [idxOf, if_pos h1]; omega
    · rw [idxOf, if_neg h1]
      by_cases h2 : idxOf r x < 0
      · rw [if_pos h2]; omega
      · rw [if_neg h2]; omega
theorem idxOf_none {xs : List Int} {x : Int} (h : ∀ y ∈ xs, y ≠ x) : idxOf xs x = -1 := by
  induction xs with
  | nil => rfl
  | cons y r ih =>
    rw [idxOf, if_neg (h y (by simp)), ih (fun z hz => h z (by simp [hz]))]
    rfl
theorem idxOf_at {xs : List Int} {x : Int} {k : Nat} (hk : xs[k]? = some x) (h : ∀ y ∈ xs.take k, y ≠ x) : idxOf xs x = k := by
  induction xs generalizing k with
  | nil => simp at hk
  | cons y r ih =>
    cases k with
    | zero => simp at hk; rw [idxOf, if_pos hk]; rfl
    | succ k =>
      rw [idxOf, if_neg (h y (by simp)), ih (by simpa using hk) (fun z hz => h z (by simp [hz])), if_neg (by omega)]
      omega

set_option maxRecDepth 100000 in
set_option maxHeartbeats 1000000 in
theorem Index_any (a : Option Addr) (xs : List Int) (cap : Nat) (x : Int) (w : World) (h : Reads .i64 w a xs) (hn : xs.length ≤ 1000000) :
    Calls Tryz.prog 230 #[.slice a xs.length cap, .int .i64 x] w fun e w' => e = .returned (.int .i64 (idxOf xs x)) ∧ ∃ q, w' = w.drewN q := by
  have HH := Lib.hid h
  clear h
  go_enter Tryz.func230, Tryz.ntmps230
  go_wp2
  go_loop [8] (fun i => ∃ k : Nat, k ≤ xs.length ∧ i = .int .i64 k ∧ Hid (∀ y ∈ xs.take k, y ≠ x)) (fun i => xs.length - (intOf i).toNat)
  case atStart => exact ⟨0, Nat.zero_le _, rfl, Lib.hid (by simp)⟩
  case round =>
    obtain ⟨k, hk, rfl, HB⟩ := hrel
    by_cases hlt : k < xs.length
    · obtain ⟨b, off, rfl, hc⟩ := HH.out.at_ k hlt
      obtain ⟨y, hy⟩ : ∃ y, xs[k]? = some y := ⟨_, List.getElem?_eq_getElem hlt⟩
      rw [hy] at hc
      simp at hc
      have HY := Lib.hid hy
      clear hy
      by_cases e : x = y
      · have y1 : (x == y) = true := by simpa using e
        have HF : Hid (idxOf xs x = (k : Int)) := Lib.hid (idxOf_at (by rw [e]; exact HY.out) HB.out)
        clear e
        go_wp2
        go_ret
        exact ⟨by rw [HF.out]; rfl, 0, rfl⟩
      · have y1 : (x == y) = false := by simpa using e
        have HF : Hid (∀ z ∈ xs.take (k + 1), z ≠ x) := Lib.hid (by
          intro z hz
          rw [List.take_add_one, HY.out] at hz
          simp at hz
          rcases hz with hz | hz
          · exact HB.out z hz
          · rw [hz]; exact fun h => e h.symm)
        clear e
        go_wp2
        go_round
        case rel => exact ⟨k + 1, by omega, by go_num, HF⟩
        case measure => simp [intOf]; omega
    · obtain rfl : k = xs.length := by omega
      have HF : Hid (idxOf xs x = -1) := Lib.hid (idxOf_none (by have := HB.out; rwa [List.take_length] at this))
      go_wp2
      go_ret
      exact ⟨by rw [HF.out]; rfl, 0, rfl⟩

theorem trWalk_any (tb : Nat) (id : Int) (w : World) : Calls Tryz.prog 229 #[.pointer (some ⟨tb, 0, none⟩), .int .i64 id] w fun e w' => e = .returned (.func (.func 233) #[] #[.pointer (some ⟨w.heap.size, 0, none⟩), .pointer (some ⟨w.heap.size + 1, 0, none⟩)]) ∧ w' = (w.alloc (.cells #[.pointer (some ⟨tb, 0, none⟩)] 111)).alloc (.cells #[.int .i64 id] 3) := by
  go_enter Tryz.func229, Tryz.ntmps229
  go_wp2
  go_ret
  exact ⟨rfl, rfl⟩
end Go.Proofs.YtcenagpkfimkbaaGreatDoor
namespace Go.Proofs.YtcenagpkfimkbaaGreatDoor
open Go Go.RowKit Go.Shelf

attribute [local go_sem] Oper.semAt_some
@[local go_sem] theorem wide_fnW (f : FuncId) : Fence.wide.fn f = True := rfl
@[local go_sem] theorem wide_fnW2 (l : Nat) (f : FuncId) : (Fence.wide.inRound l).fn f = True := rfl

def walkL (m : IM Int) : Nat → Int → List Int
  | 0, _ => []
  | f + 1, id => (kidsL m id).flatMap fun kid => kid :: walkL m f kid
structure Downs (m : IM Int) (M : Int) : Prop where
  up : ∀ p ∈ m, p.2 < p.1
  le : ∀ p ∈ m, p.1 ≤ M
  lo : ∀ p ∈ m, 0 ≤ p.2
theorem kidsL_mem {m : IM Int} {id x : Int} : x ∈ kidsL m id ↔ (x, id) ∈ m := by
  unfold kidsL
  simp

def withBox (p : HP) (b : Nat) (o : Obj) : HP := fun W S => ∃ S1, p W S1 ∧ ¬ S1 b ∧ W.heap[b]? = some o ∧ ∀ k, S k ↔ S1 k ∨ k = b
theorem withBox.ok {p : HP} (h : p.Ok) (b : Nat) (o : Obj) : (withBox p b o).Ok := by
  constructor
  · rintro w w' S T ⟨S1, hp, h1, h2, hs⟩ hm hd
    exact ⟨S1, h.moved hp hm (fun k hk => hd k ((hs k).2 (.inl hk))), h1, hm.heap h2 (hd b ((hs b).2 (.inr rfl))), hs⟩
  · rintro w S ⟨S1, hp, h1, h2, hs⟩ k hk
    rcases (hs k).1 hk with h3 | rfl
    · exact h.lt hp k h3
    · exact heap_lt h2
theorem Grows.unbox {S S1 S' : Nat → Prop} {b : Nat} {o : Obj} {w w' : World} (h : Grows (fun k => S k ∨ k = b) S' w w') (h1 : w.heap[b]? = some o) (h2 : w'.heap[b]? = some o) (hs : ∀ k, S1 k → S' k ∧ k ≠ b) : Grows S S1 w w' :=
  ⟨⟨h.m.os, h.m.tape, h.m.output, h.m.size, fun k hk hn => by
    by_cases e : k = b
    · subst e; rw [h1, h2]
    · exact h.m.block k hk (fun e2 => e2.elim hn e)⟩, fun k hk => by
      obtain ⟨h3, h4⟩ := hs k hk
      rcases h.s k h3 with (h5 | h5) | h5
      · exact .inl h5
      · exact absurd h5 h4
      · exact .inr h5⟩

def WalkPre (tb tm : Nat) (m : IM Int) (Bt Bi : Nat) (id : Int) : HP := fun W S => W.heap[Bt]? = some (.cells #[.pointer (some ⟨tb, 0, none⟩)] 111 (0, 0)) ∧ W.heap[Bi]? = some (.cells #[.int .i64 id] 3 (0, 0)) ∧ TreeAt W tb tm m ∧ ¬ S Bt ∧ ¬ S Bi ∧ ¬ S tb ∧ ¬ S tm

structure WkInv (J : List Int → HP) (S : Nat → Prop) (W1 : World) (pre : List Int) (Ds : List Nat) (wr : World) : Prop where
  j : ∃ S', J pre wr S' ∧ Grows S S' W1 wr ∧ ∀ D ∈ Ds, ¬ S' D
  nd : Ds.Nodup
  ds : ∀ D ∈ Ds, wr.heap[D]? = some (.deferred (some []))
  ge : ∀ D ∈ Ds, W1.heap.size ≤ D
theorem WkInv.grow {J : List Int → HP} {S : Nat → Prop} {W1 : World} {pre : List Int} {Ds : List Nat} {wr : World} (h : WkInv J S W1 pre Ds wr) : Grows S (fun _ => False) W1 wr := by
  obtain ⟨S', h1, h2, h3⟩ := h.j
  exact ⟨h2.m, fun k hk => hk.elim⟩


def wkPre (m : IM Int) (f : Nat) (id : Int) (j : Nat) : List Int := ((kidsL m id).take j).flatMap fun kid => kid :: walkL m f kid
theorem wkPre_succ {m : IM Int} {f : Nat} {id : Int} {j : Nat} {kid : Int} (h : (kidsL m id)[j]? = some kid) : wkPre m f id (j + 1) = wkPre m f id j ++ [kid] ++ walkL m f kid := by
  unfold wkPre
  rw [List.take_add_one, h, List.flatMap_append]
  simp
theorem wkPre_all (m : IM Int) (f : Nat) (id : Int) : wkPre m f id (kidsL m id).length = walkL m (f + 1) id := by
  unfold wkPre
  rw [List.take_length]
  rfl
theorem wkPre_prefix (m : IM Int) (f : Nat) (id : Int) (j : Nat) : wkPre m f id j <+: walkL m (f + 1) id := by
  rw [← wkPre_all]
  unfold wkPre
  rw [List.take_length]
  exact ⟨((kidsL m id).drop j).flatMap (fun kid => kid :: walkL m f kid), by rw [← List.flatMap_append, List.take_append_drop]⟩

theorem walk_new {S S' S3 S1 : Nat → Prop} {w1 wr W3 W4 W5 : World} {Ds : List Nat} {D : Nat} (h1 : Grows S' S3 wr W3) (h2 : Below W3.heap.size W3 W4) (h3 : Grows S3 S1 W4 W5) (h0 : Grows S S' w1 wr) (nd : Ds.Nodup) (ds : ∀ D ∈ Ds, wr.heap[D]? = some (.deferred (some []))) (ge : ∀ D ∈ Ds, w1.heap.size ≤ D) (hn : ∀ D ∈ Ds, ¬ S' D)
    (hD : W4.heap.size ≤ D) (hnD : ¬ S1 D) (hK : W5.heap[D]? = some (.deferred (some []))) : Grows S S1 w1 W5 ∧ (∀ D' ∈ D :: Ds, ¬ S1 D') ∧ (D :: Ds).Nodup ∧ (∀ D' ∈ D :: Ds, W5.heap[D']? = some (.deferred (some []))) ∧ (∀ D' ∈ D :: Ds, w1.heap.size ≤ D') := by
  have hlt : ∀ D' ∈ Ds, D' < wr.heap.size := fun D' h => heap_lt (ds D' h)
  have s1 := h0.m.size
  have s2 := h1.m.size
  have s3 := h2.size
  have n3 : ∀ D' ∈ Ds, ¬ S3 D' := fun D' h e => (h1.s D' e).elim (hn D' h) (fun e => by have := hlt D' h; omega)
  have n5 : ∀ D' ∈ Ds, ¬ S1 D' := fun D' h e => (h3.s D' e).elim (n3 D' h) (fun e => by have := hlt D' h; omega)
  refine ⟨h0.trans (h1.trans (Grows.after_below h2 h3)), ?_, ?_, ?_, ?_⟩
  · intro D' h
    rcases List.mem_cons.1 h with rfl | h
    · exact hnD
    · exact n5 D' h
  · exact List.nodup_cons.2 ⟨fun h => by have := hlt D h; omega, nd⟩
  · intro D' h
    rcases List.mem_cons.1 h with rfl | h
    · exact hK
    · exact h3.m.heap (heap_below h2 (h1.m.heap (ds D' h) (hn D' h)) (by have := hlt D' h; omega)) (n3 D' h)
  · intro D' h
    rcases List.mem_cons.1 h with rfl | h
    · omega
    · exact ge D' h
theorem walk_out {S S1 : Nat → Prop} {W w1 w2 w3 : World} {Ds : List Nat} (hb : Below W.heap.size W w1) (_hS : ∀ k, S k → k < W.heap.size) (hg : Grows S S1 w1 w2) (ge : ∀ D ∈ Ds, w1.heap.size ≤ D) (hm : Moved (fun k => k ∈ Ds) w2 w3) : Grows S S1 W w3 :=
  Grows.after_below hb ⟨hg.m.trans hm (fun q hq => .inr (ge q hq)), hg.s⟩

set_option maxRecDepth 100000 in
set_option maxHeartbeats 4000000 in
theorem walk_step (tb tm : Nat) (m : IM Int) (hl : m.length ≤ 1000000) (f : Nat) (id : Int) (ih : ∀ kid ∈ kidsL m id, ∀ (Bt Bi : Nat),
    Hands Tryz.prog 233 #[.pointer (some ⟨Bt, 0, none⟩), .pointer (some ⟨Bi, 0, none⟩)] OneInt (fun pre => pre <+: walkL m f kid) (fun xs => xs = walkL m f kid) (WalkPre tb tm m Bt Bi kid)) (Bt Bi : Nat) :
    Hands Tryz.prog 233 #[.pointer (some ⟨Bt, 0, none⟩), .pointer (some ⟨Bi, 0, none⟩)] OneInt (fun pre => pre <+: walkL m (f + 1) id) (fun xs => xs = walkL m (f + 1) id) (WalkPre tb tm m Bt Bi id) := by
  intro l J Jx hJ hJx hY W S h0 hP
  obtain ⟨hBt, hBi, hT, n1, n2, n3, n4⟩ := hP
  have hlt := (hJ []).lt h0
  obtain ⟨Wb, hWb⟩ : ∃ Wb, W.alloc (.cells #[.func (.yield l) #[] #[]] 212) = Wb := ⟨_, rfl⟩
  have hbb : Below W.heap.size W Wb := by rw [← hWb]; exact (Below.refl _ _).alloc (Nat.le_refl _) _
  have hbx : Wb.heap[W.heap.size]? = some (.cells #[.func (.yield l) #[] #[]] 212 (0, 0)) := by rw [← hWb]; exact heap_alloc_eq _ _
  have t0 := heap_cell (heap_below hbb hBt (heap_lt hBt)) 0
  have i0 := heap_cell (heap_below hbb hBi (heap_lt hBi)) 0
  simp at t0 i0
  have hKd := trKids_any (hT.later hbb) id hl
  have hkl : (kidsL m id).length ≤ 1000000 := by
    unfold kidsL
    rw [List.length_map]
    exact Nat.le_trans (List.length_filter_le _ _) hl
  refine (callsIn_wide (n := 3)).1 ?_
  refine callsIn_of_wp_marks Tryz.func233 rfl trivial ?_ rfl
  simp only [Tryz.ntmps233, List.size_toArray, List.length_cons, List.length_nil, Nat.reduceAdd, Nat.reduceSub, Array.replicate_succ, Array.replicate_zero, List.push_toArray, List.append_toArray, List.nil_append, List.cons_append]
  have HY := Lib.hid hY
  have HP := Lib.hid (And.intro hBt (And.intro hBi (And.intro hT (And.intro n1 (And.intro n2 (And.intro n3 n4))))))
  have hwb := hbb.size
  have HB := Lib.hid (And.intro hbb hbx)
  have HIH := Lib.hid ih
  have HJ := Lib.hid (And.intro hJ (And.intro hJx (And.intro h0 hlt)))
  clear hY hBt hBi hT n1 n2 n3 n4 hbb hbx ih hJ hJx h0 hlt
  gi_wp2_with fail
  try rw [hWb]
  gi_wp2_with fail
  refine (callsIn_wide.2 hKd).mono ?_
  rintro e w1 ⟨v, rfl, hb1, hown⟩
  obtain ⟨a, c, rfl, hrd, hab, _⟩ := owns_reads hown
  have H1 := Lib.hid (And.intro (HB.out.1.trans (hb1.mono HB.out.1.size)) (And.intro hrd (And.intro hab (heap_below hb1 HB.out.2 (heap_lt HB.out.2)))))
  have hw1 : W.heap.size < w1.heap.size := by have := heap_lt H1.out.2.2.2; exact this
  clear hKd hb1 hown hrd hab hWb HB
  obtain ⟨N, hN⟩ : ∃ N, (kidsL m id).length = N := ⟨_, rfl⟩
  have HN := Lib.hid hN
  rw [hN] at hkl ⊢
  clear hN t0 i0
  gi_wp2
  refine wpIn_loop (fun a' wr => ∃ (j : Nat) (Ds : List Nat) (u5 u12 u13 u14 u15 u16 u17 u18 u19 u20 u21 u27 : Value), j ≤ N ∧ Hid (WkInv J S w1 (wkPre m f id j) Ds wr) ∧
      a' = { tmps := #[.func (.yield l) #[] #[], .pointer (some ⟨Bt, 0, none⟩), .pointer (some ⟨Bi, 0, none⟩), .pointer (some ⟨W.heap.size, 0, none⟩), undef, u5, undef, .pointer (some ⟨tb, 0, none⟩), .int .i64 id, .slice a N c, .int .i64 N, .int .i64 j, u12, u13, u14, u15, u16, u17, u18, u19, u20, u21, undef, undef, undef, undef, undef, u27], defers := Ds.map markOf })
    (fun a' _ => N - (intOf (a'.tmps.getD 11 undef)).toNat) ?_ ?_
  · refine ⟨0, [], _, _, _, _, _, _, _, _, _, _, _, _, Nat.zero_le _, Lib.hid ⟨⟨S, (HJ.out.1 []).below HJ.out.2.2.1 H1.out.1, Grows.refl _ _, by simp⟩, by simp, by simp, by simp⟩, rfl⟩
  · rintro a' wr ⟨j, Ds, u5, u12, u13, u14, u15, u16, u17, u18, u19, u20, u21, u27, hj, HV, rfl⟩
    by_cases hlt : j < N
    · obtain ⟨b, off, rfl, hc⟩ := H1.out.2.1.at_ j (by rw [HN.out]; exact hlt)
      obtain ⟨kid, hkid⟩ : ∃ kid, (kidsL m id)[j]? = some kid := ⟨_, List.getElem?_eq_getElem (by rw [HN.out]; exact hlt)⟩
      rw [hkid] at hc
      simp only [Option.getD_some] at hc
      obtain ⟨S', j1, j2, j3⟩ := HV.out.j
      have hsz := j2.m.size
      have keep : ∀ {k : Nat} {o : Obj}, w1.heap[k]? = some o → ¬ S k → wr.heap[k]? = some o := fun h hn => j2.m.heap h hn
      have nSb : ¬ S b := fun e => by have := HJ.out.2.2.2 _ e; have h2 := (H1.out.2.2.1 _ rfl).1; simp at h2; omega
      have hcr := j2.m.cell hc nSb
      have nSx : ¬ S W.heap.size := fun e => by have := HJ.out.2.2.2 _ e; omega
      have hbx := keep H1.out.2.2.2 nSx
      have x0 := heap_cell hbx 0
      simp at x0
      have hpart : wkPre m f id j ++ [kid] <+: walkL m (f + 1) id := List.IsPrefix.trans ⟨walkL m f kid, (wkPre_succ hkid).symm⟩ (wkPre_prefix m f id (j + 1))
      have hy := yield_any (m := 2) (HY.out _ kid #[.int .i64 kid] wr S' hpart rfl j1)
      obtain ⟨fn, tmps, assign, body, hy, hR⟩ := hy
      have HZ := Lib.hid (And.intro hkid (And.intro j1 (And.intro j2 (And.intro j3 (And.intro hbx nSx)))))
      clear hc hkid j1 j2 j3 hpart keep hbx nSx
      gi_wp2
      refine RoundIn.mono (R := YieldEnd S' (J (wkPre m f id j ++ [kid])) Jx wr) hR ?_
      rintro e W3 ⟨S3, hg3, (⟨rfl, hJ3⟩ | ⟨rfl, hJx3⟩)⟩
      · have hgr := HZ.out.2.2.1.trans hg3
        have hsz3 := hgr.m.size
        have hBt := heap_below H1.out.1 HP.out.1 (heap_lt HP.out.1)
        have hBt3 := hgr.m.heap hBt HP.out.2.2.2.1
        have t3 := heap_cell hBt3 0
        simp at t3
        have hbx3 := hg3.m.heap HZ.out.2.2.2.2.1 (fun e => (HZ.out.2.2.1.s _ e).elim HZ.out.2.2.2.2.2 (fun e => by omega))
        have hWk := trWalk_any tb kid W3
        obtain ⟨W4, hW4⟩ : ∃ W4, (W3.alloc (.cells #[.pointer (some ⟨tb, 0, none⟩)] 111)).alloc (.cells #[.int .i64 kid] 3) = W4 := ⟨_, rfl⟩
        have hb4 : Below W3.heap.size W3 W4 := by rw [← hW4]; exact ((Below.refl _ _).alloc (Nat.le_refl _) _).alloc (by simp) _
        have o4 : W4.heap[W3.heap.size]? = some (.cells #[.pointer (some ⟨tb, 0, none⟩)] 111 (0, 0)) := by rw [← hW4]; exact heap_alloc_lt (heap_alloc_eq _ _) _
        have o5 : W4.heap[W3.heap.size + 1]? = some (.cells #[.int .i64 kid] 3 (0, 0)) := by rw [← hW4]; simpa using heap_alloc_eq (W3.alloc (.cells #[.pointer (some ⟨tb, 0, none⟩)] 111)) (.cells #[.int .i64 kid] 3)
        rw [hW4] at hWk
        have H3 := Lib.hid (And.intro hg3 (And.intro hJ3 (And.intro hgr (And.intro hbx3 (And.intro hb4 (And.intro o4 o5))))))
        clear hgr hBt hBt3 hbx3 hW4 hb4 o4 o5 hg3 hJ3
        gi_wp2_with fail
        refine (callsIn_wide.2 hWk).mono ?_
        rintro e W4' ⟨rfl, rfl⟩
        clear hWk
        gi_wp2
        have oB : Obj := .cells #[.func (.yield l) #[] #[]] 212 (0, 0)
        have hgv := H3.out
        refine wpIn_range_hp2 (by omega) (gf := 233) (lb := #[.pointer (some ⟨W3.heap.size, 0, none⟩), .pointer (some ⟨W3.heap.size + 1, 0, none⟩)]) rfl (enters_of Tryz.func233 (by kernel_rfl) rfl)
          (HIH.out kid (List.mem_of_getElem? HZ.out.1) W3.heap.size (W3.heap.size + 1)) (fun sub => withBox (J (wkPre m f id j ++ [kid] ++ sub)) W.heap.size (.cells #[.func (.yield l) #[] #[]] 212 (0, 0))) (withBox Jx W.heap.size (.cells #[.func (.yield l) #[] #[]] 212 (0, 0)))
          (fun _ => withBox.ok (HJ.out.1 _) _ _) (withBox.ok HJ.out.2.1 _ _) (fun k => S3 k ∨ k = W.heap.size) ⟨S3, by rw [List.append_nil]; exact (HJ.out.1 _).below H3.out.2.1 H3.out.2.2.2.2.1, fun e => ?nb, heap_below H3.out.2.2.2.2.1 H3.out.2.2.2.1 (heap_lt H3.out.2.2.2.1), fun k => Iff.rfl⟩ (fun x args W S h => by rw [h]; rfl) ?pre ?round ?done ?stop
        case nb => exact (H3.out.2.2.1.s _ e).elim HZ.out.2.2.2.2.2 (fun e => by omega)
        case pre =>
          intro Wn Sn hbn hsn
          have hb34 := H3.out.2.2.2.2.1.size
          have hT1 := HP.out.2.2.1.later H1.out.1
          have hT3 := hT1.moved H3.out.2.2.1.m HP.out.2.2.2.2.2.1 HP.out.2.2.2.2.2.2
          have hT4 := (hT3.later H3.out.2.2.2.2.1).later hbn
          have hS3 : ∀ k, k < W.heap.size → ¬ S k → ¬ Sn k := fun k hk hn e => by
            rcases hsn k e with (h | h) | h
            · rcases H3.out.2.2.1.s k h with h | h
              · exact hn h
              · omega
            · omega
            · omega
          have hS4 : ∀ k, W3.heap.size ≤ k → k < W4'.heap.size → ¬ Sn k := fun k h1 h2 e => by
            rcases hsn k e with (h | h) | h
            · have := (HJ.out.1 _).lt H3.out.2.1 k h; omega
            · omega
            · omega
          exact ⟨heap_below hbn H3.out.2.2.2.2.2.1 (heap_lt H3.out.2.2.2.2.2.1), heap_below hbn H3.out.2.2.2.2.2.2 (heap_lt H3.out.2.2.2.2.2.2), hT4, hS4 _ (by omega) (heap_lt H3.out.2.2.2.2.2.1), hS4 _ (by omega) (heap_lt H3.out.2.2.2.2.2.2), hS3 _ (heap_lt HP.out.2.2.1.blk) HP.out.2.2.2.2.2.1, hS3 _ HP.out.2.2.1.map.lt HP.out.2.2.2.2.2.2⟩
        case round =>
          rintro l' D' sub x args Wn Sn hpart rfl hI hltn hl' hnl hnel
          gi_wp2
          refine ⟨Below.refl _ _, ?_⟩
          rintro WB - hmB ⟨S1, g1, g2, g3, g4⟩
          have z0 := heap_cell g3 0
          simp at z0
          have hpart2 : wkPre m f id j ++ [kid] ++ sub ++ [x] <+: walkL m (f + 1) id := by
            refine List.IsPrefix.trans ?_ (wkPre_prefix m f id (j + 1))
            rw [wkPre_succ HZ.out.1, List.append_assoc (wkPre m f id j ++ [kid])]
            exact (List.prefix_append_right_inj _).2 hpart
          have hy := yield_any (m := 0) (HY.out _ x #[.int .i64 x] WB S1 hpart2 rfl g1)
          obtain ⟨fn, tmps, assign, body, hy, hR⟩ := hy
          have HG := Lib.hid (And.intro g2 (And.intro g3 (And.intro g4 hmB.size)))
          clear g1 g2 g3 g4 hmB hpart hpart2 hI
          gi_wp2
          refine RoundIn.mono (R := YieldEnd S1 (J (wkPre m f id j ++ [kid] ++ sub ++ [x])) Jx WB) hR ?_
          rintro e W5 ⟨S5, hg5, (⟨rfl, hJ5⟩ | ⟨rfl, hJx5⟩)⟩
          all_goals
            have hWB := heap_lt HG.out.2.1
            have hG5 : Grows (fun k => Sn k ∨ Wn.heap.size ≤ k) (fun k => S5 k ∨ k = W.heap.size) WB W5 := ⟨⟨hg5.m.os, hg5.m.tape, hg5.m.output, hg5.m.size, fun k hk hn => hg5.m.block k hk (fun e => hn (.inl ((HG.out.2.2.1 k).2 (.inl e))))⟩, fun k hk => by
              rcases hk with hk | hk
              · rcases hg5.s k hk with h | h
                · exact .inl (.inl ((HG.out.2.2.1 k).2 (.inl h)))
                · exact .inr h
              · exact .inl (.inl ((HG.out.2.2.1 k).2 (.inr hk)))⟩
            have hn5 : ¬ S5 W.heap.size := fun e => (hg5.s _ e).elim HG.out.1 (fun e => by omega)
            have hb5 := hg5.m.heap HG.out.2.1 HG.out.1
          · have HF : Hid (BodyEnd (fun k => Sn k ∨ Wn.heap.size ≤ k) (withBox (J (wkPre m f id j ++ [kid] ++ (sub ++ [x]))) W.heap.size (.cells #[.func (.yield l) #[] #[]] 212 (0, 0))) (withBox Jx W.heap.size (.cells #[.func (.yield l) #[] #[]] 212 (0, 0))) WB .normal { tmps := #[], defers := [] } W5) := Lib.hid ⟨_, hG5, S5, by rw [← List.append_assoc]; exact hJ5, hn5, hb5, fun k => Iff.rfl⟩
            clear hG5 hn5 hb5 hg5 hJ5
            gi_wp2
            exact HF.out
          · have HF : Hid (BodyEnd (fun k => Sn k ∨ Wn.heap.size ≤ k) (withBox (J (wkPre m f id j ++ [kid] ++ (sub ++ [x]))) W.heap.size (.cells #[.func (.yield l) #[] #[]] 212 (0, 0))) (withBox Jx W.heap.size (.cells #[.func (.yield l) #[] #[]] 212 (0, 0))) WB .ret { tmps := #[], defers := [] } W5) := Lib.hid ⟨_, hG5, S5, hJx5, hn5, hb5, fun k => Iff.rfl⟩
            clear hG5 hn5 hb5 hg5 hJx5
            gi_wp2
            exact HF.out
        case done =>
          rintro D xs W5 S5 hD rfl ⟨S1, g1, g2, g3, g4⟩ hg hnD hK
          have hnx := walk_new (H3.out.1) (H3.out.2.2.2.2.1) (hg.unbox (heap_below H3.out.2.2.2.2.1 H3.out.2.2.2.1 (heap_lt H3.out.2.2.2.1)) g3 (fun k hk => ⟨(g4 k).2 (.inl hk), fun e => g2 (e ▸ hk)⟩)) HZ.out.2.2.1 HV.out.nd HV.out.ds HV.out.ge HZ.out.2.2.2.1 hD (fun e => hnD ((g4 D).2 (.inl e))) hK
          have HNX : Hid (WkInv J S w1 (wkPre m f id (j + 1)) (D :: Ds) W5) := Lib.hid ⟨⟨S1, by rw [wkPre_succ HZ.out.1]; exact g1, hnx.1, hnx.2.1⟩, hnx.2.2.1, hnx.2.2.2.1, hnx.2.2.2.2⟩
          clear hnx hg hnD hK g1 g2 g3 g4
          gi_wp2
          refine ⟨⟨j + 1, D :: Ds, _, _, _, _, _, _, _, _, _, _, _, _, by omega, HNX, rfl⟩, ?_⟩
          simp [intOf]
          omega
        case stop =>
          rintro D W5 S5 hD ⟨S1, g1, g2, g3, g4⟩ hg hnD hK
          have hnx := walk_new (H3.out.1) (H3.out.2.2.2.2.1) (hg.unbox (heap_below H3.out.2.2.2.2.1 H3.out.2.2.2.1 (heap_lt H3.out.2.2.2.1)) g3 (fun k hk => ⟨(g4 k).2 (.inl hk), fun e => g2 (e ▸ hk)⟩)) HZ.out.2.2.1 HV.out.nd HV.out.ds HV.out.ge HZ.out.2.2.2.1 hD (fun e => hnD ((g4 D).2 (.inl e))) hK
          have HNX := Lib.hid (And.intro hnx g1)
          clear hnx hg hnD hK g1 g2 g3 g4
          gi_wp2
          refine leaves_marks (D :: Ds) _ HNX.out.1.2.2.1 HNX.out.1.2.2.2.1 (fun w' hm => ?_)
          refine ⟨_, results_none rfl _ _ _, ⟨_, rfl⟩, S1, walk_out H1.out.1 HJ.out.2.2.2 HNX.out.1.1 HNX.out.1.2.2.2.2 hm, .inr (HJ.out.2.1.moved HNX.out.2 hm (fun k hk e => HNX.out.1.2.1 k e hk))⟩
      · have hgr := HZ.out.2.2.1.trans hg3
        have hds : ∀ D ∈ Ds, W3.heap[D]? = some (.deferred (some [])) := fun D hD => hg3.m.heap (HV.out.ds D hD) (HZ.out.2.2.2.1 D hD)
        have hns : ∀ D ∈ Ds, ¬ S3 D := fun D hD e => (hg3.s D e).elim (HZ.out.2.2.2.1 D hD) (fun e => by have := heap_lt (HV.out.ds D hD); omega)
        have HNX := Lib.hid (And.intro hgr (And.intro hds (And.intro hns hJx3)))
        clear hgr hds hns hg3 hJx3
        gi_wp2
        refine leaves_marks Ds _ HV.out.nd HNX.out.2.1 (fun w' hm => ?_)
        refine ⟨_, results_none rfl _ _ _, ⟨_, rfl⟩, S3, walk_out H1.out.1 HJ.out.2.2.2 HNX.out.1 HV.out.ge hm, .inr (HJ.out.2.1.moved HNX.out.2.2.2 hm (fun k hk e => HNX.out.2.2.1 k e hk))⟩
    · obtain rfl : j = N := by omega
      gi_wp2
      obtain ⟨S', j1, j2, j3⟩ := HV.out.j
      refine leaves_marks Ds _ HV.out.nd HV.out.ds (fun w' hm => ?_)
      refine ⟨_, results_none rfl _ _ _, ⟨_, rfl⟩, S', walk_out H1.out.1 HJ.out.2.2.2 j2 HV.out.ge hm, .inl ⟨_, rfl, ?_⟩⟩
      rw [← wkPre_all, HN.out]
      exact (HJ.out.1 _).moved j1 hm (fun k hk e => j3 k e hk)

theorem walk_hands (tb tm : Nat) (m : IM Int) (M : Int) (hm : Downs m M) (hl : m.length ≤ 1000000) : ∀ (f : Nat) (id : Int), M - id ≤ f → ∀ (Bt Bi : Nat),
    Hands Tryz.prog 233 #[.pointer (some ⟨Bt, 0, none⟩), .pointer (some ⟨Bi, 0, none⟩)] OneInt (fun pre => pre <+: walkL m (f + 1) id) (fun xs => xs = walkL m (f + 1) id) (WalkPre tb tm m Bt Bi id)
  | 0, id, hf, Bt, Bi => walk_step tb tm m hl 0 id (fun kid hk => by
      have h := kidsL_mem.1 hk
      have := hm.up _ h
      have := hm.le _ h
      simp at *
      omega) Bt Bi
  | f + 1, id, hf, Bt, Bi => walk_step tb tm m hl (f + 1) id (fun kid hk => walk_hands tb tm m M hm hl f kid (by
      have h := kidsL_mem.1 hk
      have := hm.up _ h
      simp at *
      omega)) Bt Bi
end Go.Proofs.YtcenagpkfimkbaaGreatDoor
namespace Go.Proofs.YtcenagpkfimkbaaGreatDoor
open Go Go.RowKit Go.Shelf

attribute [local go_sem] Oper.semAt_some
@[local go_sem] theorem wide_fnI (f : FuncId) : Fence.wide.fn f = True := rfl
@[local go_sem] theorem wide_fnI2 (l : Nat) (f : FuncId) : (Fence.wide.inRound l).fn f = True := rfl

def wkL (m : IM Int) (M id : Int) : List Int := walkL m ((M - id).toNat + 1) id
theorem wkL_hands {tb tm : Nat} {m : IM Int} {M : Int} (hm : Downs m M) (hl : m.length ≤ 1000000) (id : Int) (Bt Bi : Nat) :
    Hands Tryz.prog 233 #[.pointer (some ⟨Bt, 0, none⟩), .pointer (some ⟨Bi, 0, none⟩)] OneInt (fun pre => pre <+: wkL m M id) (fun xs => xs = wkL m M id) (WalkPre tb tm m Bt Bi id) :=
  walk_hands tb tm m M hm hl _ id (by omega) Bt Bi
theorem walkPre_new {tb tm : Nat} {m : IM Int} {id : Int} {w W4 : World} (h : TreeAt w tb tm m) (hW : W4 = (w.alloc (.cells #[.pointer (some ⟨tb, 0, none⟩)] 111)).alloc (.cells #[.int .i64 id] 3)) (Wn : World) (Sn : Nat → Prop) (hb : Below W4.heap.size W4 Wn) (hs : ∀ k, Sn k → k ≠ tb ∧ k ≠ tm ∧ k ≠ w.heap.size ∧ k ≠ w.heap.size + 1) : WalkPre tb tm m w.heap.size (w.heap.size + 1) id Wn Sn := by
  have hb4 : Below w.heap.size w W4 := by rw [hW]; exact ((Below.refl _ _).alloc (Nat.le_refl _) _).alloc (by simp) _
  have o4 : W4.heap[w.heap.size]? = some (.cells #[.pointer (some ⟨tb, 0, none⟩)] 111 (0, 0)) := by rw [hW]; exact heap_alloc_lt (heap_alloc_eq _ _) _
  have o5 : W4.heap[w.heap.size + 1]? = some (.cells #[.int .i64 id] 3 (0, 0)) := by rw [hW]; simpa using heap_alloc_eq (w.alloc (.cells #[.pointer (some ⟨tb, 0, none⟩)] 111)) (.cells #[.int .i64 id] 3)
  exact ⟨heap_below hb o4 (heap_lt o4), heap_below hb o5 (heap_lt o5), (h.later hb4).later hb, fun e => (hs _ e).2.2.1 rfl, fun e => (hs _ e).2.2.2 rfl, fun e => (hs _ e).1 rfl, fun e => (hs _ e).2.1 rfl⟩

set_option maxRecDepth 100000 in
theorem trWalkAll_any {tb tm : Nat} {m : IM Int} {M : Int} {w : World} (h : TreeAt w tb tm m) (hm : Downs m M) (hl : m.length ≤ 1000000) (hwl : (wkL m M 0).length ≤ 1000000) :
    Calls Tryz.prog 231 #[.pointer (some ⟨tb, 0, none⟩)] w fun e w' => ∃ v, e = .returned v ∧ Below w.heap.size w w' ∧ w'.ownsRow w.heap.size 3 1 v (wkL m M 0).length ((wkL m M 0).map (Value.int .i64)) := by
  have hW := trWalk_any tb 0 w
  obtain ⟨W4, hW4⟩ : ∃ W4, (w.alloc (.cells #[.pointer (some ⟨tb, 0, none⟩)] 111)).alloc (.cells #[.int .i64 0] 3) = W4 := ⟨_, rfl⟩
  have hb4 : Below w.heap.size w W4 := by rw [← hW4]; exact ((Below.refl _ _).alloc (Nat.le_refl _) _).alloc (by simp) _
  have hsz : W4.heap.size = w.heap.size + 2 := by rw [← hW4]; simp
  rw [hW4] at hW
  have hC := collect_any (enters_of Tryz.func233 (by kernel_rfl) rfl) (wkL_hands (tb := tb) (tm := tm) hm hl 0 w.heap.size (w.heap.size + 1)) W4 (fun pre hp => Nat.le_trans hp.length_le hwl)
    (fun Wn Sn hb hs => walkPre_new h hW4.symm Wn Sn hb (fun k hk => by have := hs k hk; have := heap_lt h.blk; have := h.map.lt; omega))
  have HB := Lib.hid hb4
  clear h hm hW4 hb4 hsz
  go_enter Tryz.func231, Tryz.ntmps231
  go_wp2_with fail
  refine hW.mono ?_
  rintro e W ⟨rfl, rfl⟩
  clear hW
  go_wp2_with fail
  refine hC.mono ?_
  rintro e w2 ⟨v, xs, rfl, rfl, hb, ho⟩
  have HF := Lib.hid (And.intro (HB.out.trans (hb.mono HB.out.size)) (owns_low ho HB.out.size))
  obtain ⟨a, c, rfl, _⟩ := owns_slice ho
  clear hC hb ho
  go_wp2
  go_ret
  exact ⟨_, rfl, HF.out⟩

def CountI (b : Nat) (pre : List Int) : HP := fun W S => W.heap[b]? = some (.cells #[.int .i64 (1 + (pre.length : Int))] 3 (0, 0)) ∧ ∀ k, S k ↔ k = b
theorem CountI.ok (b : Nat) (pre : List Int) : (CountI b pre).Ok := by
  constructor
  · rintro w w' S T ⟨h1, hs⟩ hm hd
    exact ⟨hm.heap h1 (hd _ ((hs _).2 rfl)), hs⟩
  · rintro w S ⟨h1, hs⟩ k hk
    rw [(hs k).1 hk]; exact heap_lt h1
theorem results_cell_tmp {fn : Func} {p q : Tmp} {ty : TypeId} (h : fn.results = #[.cell p ty, .tmp q]) (tmps : Array Value) (P : Program) (w : World) (a1 : Addr) (v1 : Value)
    (hp : tmps.getD p undef = .pointer (some a1)) (h1 : (loadVar ty a1).run P w = .ok v1 w) :
    (results fn tmps).run P w = .ok (.tuple #[v1, tmps.getD q undef]) w := by
  have hp' : tmps[p]?.getD undef = .pointer (some a1) := by simpa using hp
  simp only [results, h]
  simp [Result.andThen, hp', asAddr, h1]

def IvReg (D x : Nat) (f n : Int) (W : World) : Exit → Act → World → Prop
  | .normal, a', w' => a'.defers = [markOf D] ∧ a'.tmps.getD 4 undef = .pointer (some ⟨x, 0, none⟩) ∧ a'.tmps.getD 5 undef = .bool true ∧ w'.heap[x]? = some (.cells #[.int .i64 f, .int .i64 n] 160 (0, 0)) ∧ Moved (fun k => k = x) W w'
  | _, _, _ => False

set_option maxRecDepth 100000 in
set_option maxHeartbeats 2000000 in
theorem trIntervalYes_any {tb tm : Nat} {m : IM Int} {M : Int} {w : World} (h : TreeAt w tb tm m) (hm : Downs m M) (hl : m.length ≤ 1000000) (hwl : ∀ id, (wkL m M id).length ≤ 1000000) (id : Int) (h0 : -9223372036854775808 ≤ id) (h1 : id ≤ 9223372036854775807) (hx : (lk m id).isSome = true) :
    Calls Tryz.prog 218 #[.pointer (some ⟨tb, 0, none⟩), .int .i64 id] w fun e w' => e = .returned (.tuple #[.agg #[.int .i64 (idxOf (wkL m M 0) id), .int .i64 (1 + (wkL m M id).length)], .bool true]) ∧ Below w.heap.size w w' := by
  obtain ⟨X, hX⟩ : ∃ X, w.alloc (.cells #[.int .i64 0, .int .i64 0] 160) = X := ⟨_, rfl⟩
  have hbX : Below w.heap.size w X := by rw [← hX]; exact (Below.refl _ _).alloc (Nat.le_refl _) _
  have oX : X.heap[w.heap.size]? = some (.cells #[.int .i64 0, .int .i64 0] 160 (0, 0)) := by rw [← hX]; exact heap_alloc_eq _ _
  have hH := trHas_any (h.later hbX) id h0 h1
  rw [hx] at hH
  obtain ⟨Y, hY⟩ : ∃ Y, X.alloc (.cells #[.int .i64 1] 3) = Y := ⟨_, rfl⟩
  have hbY : Below X.heap.size X Y := by rw [← hY]; exact (Below.refl _ _).alloc (Nat.le_refl _) _
  have oY : Y.heap[X.heap.size]? = some (.cells #[.int .i64 1] 3 (0, 0)) := by rw [← hY]; exact heap_alloc_eq _ _
  have hTY := (h.later hbX).later hbY
  have hW := trWalk_any tb id Y
  obtain ⟨W4, hW4⟩ : ∃ W4, (Y.alloc (.cells #[.pointer (some ⟨tb, 0, none⟩)] 111)).alloc (.cells #[.int .i64 id] 3) = W4 := ⟨_, rfl⟩
  have hb4 : Below Y.heap.size Y W4 := by rw [← hW4]; exact ((Below.refl _ _).alloc (Nat.le_refl _) _).alloc (by simp) _
  rw [hW4] at hW
  have hsz4 : W4.heap.size = Y.heap.size + 2 := by rw [← hW4]; simp
  have HH := Lib.hid (And.intro h (And.intro hm (And.intro hbX (And.intro oX (And.intro hbY (And.intro oY (And.intro hTY (And.intro hb4 (And.intro hW4 hx)))))))))
  have HW := Lib.hid hwl
  have hXY : w.heap.size < X.heap.size := heap_lt oX
  have hYX : X.heap.size < Y.heap.size := heap_lt oY
  clear h hm hbX oX hbY oY hTY hb4 hW4 hwl hx
  refine (callsIn_wide (n := 3)).1 ?_
  refine callsIn_of_wp_marks Tryz.func218 rfl trivial ?_ rfl
  simp only [Tryz.ntmps218, List.size_toArray, List.length_cons, List.length_nil, Nat.reduceAdd, Nat.reduceSub, Array.replicate_succ, Array.replicate_zero, List.push_toArray, List.append_toArray, List.nil_append, List.cons_append]
  gi_wp2_with fail
  try rw [hX]
  gi_wp2_with fail
  refine (callsIn_wide.2 hH).mono ?_
  rintro e w1 ⟨rfl, rfl⟩
  clear hH
  gi_wp2_with fail
  try rw [hY]
  gi_wp2_with fail
  refine (callsIn_wide.2 hW).mono ?_
  rintro e w1 ⟨rfl, rfl⟩
  clear hW
  gi_wp2
  refine wpIn_range_hp2 (by omega) (gf := 233) (lb := #[.pointer (some ⟨Y.heap.size, 0, none⟩), .pointer (some ⟨Y.heap.size + 1, 0, none⟩)]) rfl (enters_of Tryz.func233 (by kernel_rfl) rfl)
    (wkL_hands (tb := tb) (tm := tm) HH.out.2.1 hl id Y.heap.size (Y.heap.size + 1)) (CountI X.heap.size) (fun _ _ => False) (CountI.ok _) noHP_ok (fun k => k = X.heap.size) ⟨heap_below HH.out.2.2.2.2.2.2.2.1 HH.out.2.2.2.2.2.1 hYX, fun k => Iff.rfl⟩ (fun x args W S h => by rw [h]; rfl) ?pre ?round ?done ?stop
  case pre =>
    intro Wn Sn hb hs
    refine walkPre_new HH.out.2.2.2.2.2.2.1 HH.out.2.2.2.2.2.2.2.2.1.symm Wn Sn hb (fun k hk => ?_)
    have h2 := heap_lt HH.out.1.blk
    have h3 := HH.out.1.map.lt
    have := hs k hk
    omega
  case round =>
    rintro l' D' sub x args Wn Sn hpart rfl hI hltn hl' hnl hnel
    gi_wp2
    refine ⟨Below.refl _ _, ?_⟩
    rintro WB - hmB ⟨g1, g2⟩
    have z0 := heap_cell g1 0
    have y0 := heap_free g1 0
    simp at z0
    have hln : sub.length + 1 ≤ 1000000 := by have := hpart.length_le; simp at this; exact Nat.le_trans this (HW.out id)
    obtain ⟨k, hk⟩ : ∃ k : Int, 1 + (sub.length : Int) = k := ⟨_, rfl⟩
    rw [hk] at z0
    have hk2 : k ≤ 1000001 := by omega
    have hk0 : 0 ≤ k := by omega
    have HF : Hid (BodyEnd (fun k => Sn k ∨ Wn.heap.size ≤ k) (CountI X.heap.size (sub ++ [x])) (fun _ _ => False) WB .normal { tmps := #[], defers := [] } (WB.setCell ⟨X.heap.size, 0, none⟩ (.int .i64 (k + 1)))) := by
      refine Lib.hid ⟨Sn, ⟨.of_set WB _ 0 _ (.inl ((g2 _).2 rfl)), fun k hk => .inl (.inl hk)⟩, ?_, g2⟩
      rw [Boxed.set (t := 3) (.int .i64 (k + 1)) g1, ← hk]
      simp
      omega
    clear g1 g2 hmB hpart hI hln hk
    gi_wp2
    exact HF.out
  case done =>
    rintro D xs W5 S5 hD rfl ⟨g1, g2⟩ hg hnD hK
    have hX5 : W5.heap[w.heap.size]? = some (.cells #[.int .i64 0, .int .i64 0] 160 (0, 0)) := hg.m.heap (heap_below HH.out.2.2.2.2.2.2.2.1 (heap_below HH.out.2.2.2.2.1 HH.out.2.2.2.1 hXY) (by omega)) (by omega)
    have hT5 := ((HH.out.2.2.2.2.2.2.1.later HH.out.2.2.2.2.2.2.2.1).moved hg.m (fun e => by have := heap_lt HH.out.1.blk; omega) (fun e => by have := HH.out.1.map.lt; omega))
    have z0 := heap_cell g1 0
    have z1 := heap_free hX5 0
    have z2 := heap_free hX5 1
    simp at z0
    have hln := HW.out id
    have hln0 := HW.out 0
    have hWk := fun (wq : World) (hb : Below W5.heap.size W5 wq) => trWalkAll_any (hT5.later hb) HH.out.2.1 hl hln0
    have HK := Lib.hid (And.intro g1 (And.intro hX5 (And.intro hWk (And.intro hg (And.intro hK hnD)))))
    have hXw := hD
    have hwl0 := hln0
    have hlt5 := heap_lt g1
    have hlt6 := heap_lt hX5
    clear g1 g2 hX5 hT5 hWk hg hK hnD hln0
    gi_wp2
    refine wpIn_mono (Q := IvReg D w.heap.size (idxOf (wkL m M 0) id) (1 + (wkL m M id).length) W5) ?_ ?_
    · obtain ⟨nn, hnn⟩ : ∃ nn : Int, 1 + ((wkL m M id).length : Int) = nn := ⟨_, rfl⟩
      rw [hnn] at z0 ⊢
      clear hnn
      gi_region_with (first | (refine (callsIn_wide.2 (HK.out.2.2.1 _ (by exact ⟨rfl, rfl, rfl, by simp, fun _ _ => rfl⟩))).mono ?_; rintro e w6 ⟨v, rfl, hb6, ho6⟩; obtain ⟨a6, c6, rfl, hrd6, _, _⟩ := owns_reads ho6; clear ho6; have hb7 : Below W5.heap.size W5 w6 := ⟨hb6.os, hb6.tape, hb6.output, hb6.size, hb6.block⟩; have z6 := (hb7.cell (p := ⟨X.heap.size, 0, none⟩) (cell_lt z0)).trans z0; have x6 := heap_below hb7 HK.out.2.1 hlt6; have f6 := heap_free x6 0; have f7 := heap_free x6 1; have f8 := heap_cell x6 0; have f9 := heap_cell x6 1; simp only [List.getElem?_toArray, List.getElem?_cons_zero, List.getElem?_cons_succ] at f8 f9; have HR6 := Lib.hid (And.intro hb7 (And.intro x6 hrd6)); clear hb7 x6 hrd6 hb6) | (refine (callsIn_wide.2 (Index_any _ _ _ _ _ HR6.out.2.2 hwl0)).mono ?_; rintro e w7 ⟨rfl, q7, rfl⟩))
      all_goals
        refine ⟨rfl, rfl, rfl, ?_, ?_⟩
        · have g1 := heap_set (w := w6.drewN q7) HR6.out.2.1 0 (.int .i64 (idxOf (wkL m M 0) id))
          have g2 := heap_set g1 1 (.int .i64 nn)
          simpa using g2
        · exact (((Moved.of_below HR6.out.1 _).trans (Moved.drewN (fun k => k = w.heap.size) w6 q7) (fun q e => .inl e)).trans (Moved.of_set (S := fun k => k = w.heap.size) (w6.drewN q7) _ 0 _ rfl) (fun q e => .inl e)).trans (Moved.of_set (S := fun k => k = w.heap.size) _ _ 1 _ rfl) (fun q e => .inl e)
    · rintro e a' w' hp
      cases e with
      | normal =>
        obtain ⟨p1, p2, p3, p4, p5⟩ := hp
        have hD6 := p5.heap HK.out.2.2.2.2.1 (fun e => by omega)
        have hne : w.heap.size ≠ D := by omega
        have hb5 : Below w.heap.size w (w'.putObj D (.deferred none)) := by
          have b1 : Below w.heap.size w w1 := HH.out.2.2.1.trans ((HH.out.2.2.2.2.1.trans (HH.out.2.2.2.2.2.2.2.1.mono (by omega))).mono (by omega))
          have m2 := (((Moved.refl (fun k => k = X.heap.size ∨ k = w.heap.size ∨ k = D) w1).trans HK.out.2.2.2.1.m (fun q e => .inl (.inl e))).trans p5 (fun q e => .inl (.inr (.inl e)))).trans (.of_grown (grownBy_putObj' w' D (.deferred none)) (S := fun k => k = D) (fun k e => by cases e; rfl)) (fun q e => .inl (.inr (.inr e)))
          exact Moved.below b1 m2 (by omega) (fun q e => by omega)
        have hD7 : (w'.putObj D (.deferred none)).heap[w.heap.size]? = some (.cells #[.int .i64 (idxOf (wkL m M 0) id), .int .i64 (1 + (wkL m M id).length)] 160 (0, 0)) := (World.putObj_heap_other hne).trans p4
        have l0 := heap_cell hD7 0
        have l1 := heap_cell hD7 1
        simp only [List.getElem?_toArray, List.getElem?_cons_zero, List.getElem?_cons_succ] at l0 l1
        obtain ⟨tm', df⟩ := a'
        dsimp only at p1 p2 p3
        subst p1
        have HF := Lib.hid (And.intro hb5 (And.intro p2 (And.intro p3 hD6)))
        clear hb5 p2 p3 hD6 p4 p5 hD7
        gi_wp2
        refine ⟨by simp, .inl ⟨_, _, rfl, run_takeDeferred HF.out.2.2.2, ?_⟩⟩
        refine ⟨_, results_cell_tmp rfl _ _ _ ⟨w.heap.size, 0, none⟩ (.agg #[.int .i64 (idxOf (wkL m M 0) id), .int .i64 (1 + (wkL m M id).length)]) HF.out.2.1 (by go_simp), by rw [HF.out.2.2.1], HF.out.1⟩
      | exit id => exact hp.elim
      | goto t => exact hp.elim
      | ret => exact hp.elim
      | panic c => exact hp.elim
      | outgrown => exact hp.elim
  case stop =>
    rintro D W S _ h
    exact h.elim

set_option maxRecDepth 100000 in
theorem trIntervalNo_any {tb tm : Nat} {m : IM Int} {w : World} (h : TreeAt w tb tm m) (id : Int) (h0 : -9223372036854775808 ≤ id) (h1 : id ≤ 9223372036854775807) (hx : (lk m id).isSome = false) :
    Calls Tryz.prog 218 #[.pointer (some ⟨tb, 0, none⟩), .int .i64 id] w fun e w' => e = .returned (.tuple #[.agg #[.int .i64 0, .int .i64 0], .bool false]) ∧ Below w.heap.size w w' := by
  obtain ⟨X, hX⟩ : ∃ X, w.alloc (.cells #[.int .i64 0, .int .i64 0] 160) = X := ⟨_, rfl⟩
  have hbX : Below w.heap.size w X := by rw [← hX]; exact (Below.refl _ _).alloc (Nat.le_refl _) _
  have oX : X.heap[w.heap.size]? = some (.cells #[.int .i64 0, .int .i64 0] 160 (0, 0)) := by rw [← hX]; exact heap_alloc_eq _ _
  have hH := trHas_any (h.later hbX) id h0 h1
  rw [hx] at hH
  have HX := Lib.hid (And.intro hbX oX)
  have x0 := heap_cell oX 0
  have x1 := heap_cell oX 1
  have y0 := heap_free oX 0
  have y1 := heap_free oX 1
  simp at x0 x1
  clear h hx hbX oX
  refine (callsIn_wide (n := 3)).1 ?_
  refine callsIn_of_wp_marks Tryz.func218 rfl trivial ?_ rfl
  simp only [Tryz.ntmps218, List.size_toArray, List.length_cons, List.length_nil, Nat.reduceAdd, Nat.reduceSub, Array.replicate_succ, Array.replicate_zero, List.push_toArray, List.append_toArray, List.nil_append, List.cons_append]
  gi_wp2_with fail
  try rw [hX]
  gi_wp2_with fail
  refine (callsIn_wide.2 hH).mono ?_
  rintro e w1 ⟨rfl, rfl⟩
  clear hH
  gi_wp2
  have hm : Moved (fun k => k = w.heap.size) X ((X.setCell ⟨w.heap.size, 0, none⟩ (.int .i64 0)).setCell ⟨w.heap.size, 1, none⟩ (.int .i64 0)) := (Moved.of_set (S := fun k => k = w.heap.size) X _ 0 _ rfl).trans (Moved.of_set (S := fun k => k = w.heap.size) _ _ 1 _ rfl) (fun q e => .inl e)
  refine ⟨_, results_cell_tmp rfl _ _ _ ⟨w.heap.size, 0, none⟩ (.agg #[.int .i64 0, .int .i64 0]) rfl (by go_simp), rfl, ?_⟩
  exact Moved.below HX.out.1 hm (by have := heap_lt HX.out.2; omega) (fun q e => by omega)

def withinB (m : IM Int) (M x y : Int) : Bool := (lk m x).isSome && (lk m y).isSome && decide (idxOf (wkL m M 0) y ≤ idxOf (wkL m M 0) x ∧ idxOf (wkL m M 0) x < idxOf (wkL m M 0) y + (1 + (wkL m M y).length))
set_option maxRecDepth 100000 in
set_option maxHeartbeats 2000000 in
theorem trWithin_any {tb tm : Nat} {m : IM Int} {M : Int} {w : World} (h : TreeAt w tb tm m) (hm : Downs m M) (hl : m.length ≤ 1000000) (hwl : ∀ id, (wkL m M id).length ≤ 1000000) (x y : Int) (hx0 : -9223372036854775808 ≤ x) (hx1 : x ≤ 9223372036854775807) (hy0 : -9223372036854775808 ≤ y) (hy1 : y ≤ 9223372036854775807) (hx : (lk m x).isSome = true) (hy : (lk m y).isSome = true) :
    Calls Tryz.prog 199 #[.pointer (some ⟨tb, 0, none⟩), .int .i64 x, .int .i64 y] w fun e w' => e = .returned (.bool (withinB m M x y)) ∧ Below w.heap.size w w' := by
  have hA := trIntervalYes_any h hm hl hwl x hx0 hx1 hx
  have hB := fun (w' : World) (hb : Below w.heap.size w w') => trIntervalYes_any (h.later hb) hm hl hwl y hy0 hy1 hy
  have e0 : Hid (withinB m M x y = decide (idxOf (wkL m M 0) y ≤ idxOf (wkL m M 0) x ∧ idxOf (wkL m M 0) x < idxOf (wkL m M 0) y + (1 + (wkL m M y).length))) := Lib.hid (by rw [withinB, hx, hy]; rfl)
  have b1 := idxOf_lo (wkL m M 0) x
  have b2 := idxOf_lo (wkL m M 0) y
  have b3 := hwl 0
  have b4 := hwl y
  have b5 := hwl x
  obtain ⟨A, hA'⟩ : ∃ A, idxOf (wkL m M 0) x = A := ⟨_, rfl⟩
  obtain ⟨B, hB'⟩ : ∃ B, idxOf (wkL m M 0) y = B := ⟨_, rfl⟩
  obtain ⟨C, hC'⟩ : ∃ C : Int, (1 + ((wkL m M y).length : Int)) = C := ⟨_, rfl⟩
  obtain ⟨C', hC''⟩ : ∃ C : Int, (1 + ((wkL m M x).length : Int)) = C := ⟨_, rfl⟩
  rw [hA', hB', hC'] at e0
  rw [hA'] at hA b1
  rw [hB'] at b2
  rw [hC''] at hA
  simp only [hB', hC'] at hB
  have HB := Lib.hid hB
  have c0 : 1 ≤ C := by omega
  have c1 : C ≤ 1000001 := by omega
  have a1 : A ≤ 1000000 := by omega
  have a2 : B ≤ 1000000 := by omega
  have b10 := b1.1
  have b20 := b2.1
  clear h hm hB hwl hx hy hA' hB' hC' hC'' b1 b2 b3 b4 b5
  have ys : IntKind.i64.wrap (B + C) = B + C := IntWalk.i64_in _ (by omega)
  go_enter Tryz.func199, Tryz.ntmps199
  go_wp2_with fail
  refine hA.mono ?_
  rintro e w1 ⟨rfl, hb1⟩
  have hb2 : Below w1.heap.size w1 (w1.alloc (.cells #[.int .i64 A, .int .i64 C'] 160)) := (Below.refl _ _).alloc (Nat.le_refl _) _
  have hB1 := HB.out _ (hb1.trans (hb2.mono hb1.size))
  have o1 := heap_alloc_eq w1 (.cells #[.int .i64 A, .int .i64 C'] 160)
  generalize hW1 : w1.alloc (.cells #[.int .i64 A, .int .i64 C'] 160) = W1 at hb2 hB1 o1
  have H1 := Lib.hid (And.intro (hb1.trans (hb2.mono hb1.size)) o1)
  clear hA hb1 hb2 o1
  go_wp2_with fail
  try rw [hW1]
  go_wp2_with fail
  refine hB1.mono ?_
  rintro e w2 ⟨rfl, hb3⟩
  have hb4 : Below w2.heap.size w2 (w2.alloc (.cells #[.int .i64 B, .int .i64 C] 160)) := (Below.refl _ _).alloc (Nat.le_refl _) _
  have o2 := heap_alloc_eq w2 (.cells #[.int .i64 B, .int .i64 C] 160)
  have o3 := heap_below hb4 (heap_below hb3 H1.out.2 (heap_lt H1.out.2)) (heap_lt (heap_below hb3 H1.out.2 (heap_lt H1.out.2)))
  have hbf := H1.out.1.trans ((hb3.trans (hb4.mono hb3.size)).mono H1.out.1.size)
  generalize hW2 : w2.alloc (.cells #[.int .i64 B, .int .i64 C] 160) = W2 at hb4 o2 o3 hbf
  have H2 := Lib.hid hbf
  have z0 := heap_cell o2 0
  have z1 := heap_cell o2 1
  have y0 := heap_cell o3 0
  simp at z0 z1 y0
  clear hB1 hb3 hb4 o2 o3 hbf
  by_cases q1 : B ≤ A
  · have y3 : decide (A ≥ B) = true := by simpa using q1
    have e1 : Hid (withinB m M x y = decide (A < B + C)) := Lib.hid (by rw [e0.out]; simp [q1])
    go_wp2_with fail
    try rw [hW2]
    go_wp2
    go_ret
    exact ⟨by rw [e1.out]; rfl, H2.out⟩
  · have y3 : decide (A ≥ B) = false := by simpa using q1
    have e1 : Hid (withinB m M x y = false) := Lib.hid (by rw [e0.out]; simp [q1])
    go_wp2_with fail
    try rw [hW2]
    go_wp2
    go_ret
    exact ⟨by rw [e1.out]; rfl, H2.out⟩
end Go.Proofs.YtcenagpkfimkbaaGreatDoor
