/-
  Contracts of functions of the program, laid together.
-/
import Derived.Test.YtcenagpkfimkbaaGreatDoorTopSlotsM7
import Derived.StillTailTactics
import Derived.Deep.QuietTactic
import Derived.BigQuiet
namespace Go.Proofs.YtcenagpkfimkbaaGreatDoor
open Go Go.RowKit

def unitV : Unit → Value := fun _ => .agg #[]
structure BookAt (w : World) (bb mb : Nat) (l : IM Unit) (last most : Int) : Prop where
  blk : w.heap[bb]? = some (.cells #[.map (some mb), .int .i64 last, .int .i64 most] 189 (0, 0))
  map : MapAt .i64 3 w mb (mapV unitV l)
theorem BookAt.moved {w w' : World} {bb mb : Nat} {l : IM Unit} {last most : Int} {T : Nat → Prop} (h : BookAt w bb mb l last most) (hm : Moved T w w') (h1 : ¬ T bb) (h2 : ¬ T mb) : BookAt w' bb mb l last most :=
  ⟨hm.heap h.blk h1, h.map.moved hm h2⟩
theorem BookAt.later {w w' : World} {bb mb : Nat} {l : IM Unit} {last most : Int} (h : BookAt w bb mb l last most) (hb : Below w.heap.size w w') : BookAt w' bb mb l last most :=
  h.moved (Moved.of_below hb (fun _ => False)) id id
theorem BookAt.ne {w : World} {bb mb : Nat} {l : IM Unit} {last most : Int} (h : BookAt w bb mb l last most) : bb ≠ mb := by
  obtain ⟨es, clock, hh⟩ := h.map.block
  rintro rfl
  rw [h.blk] at hh
  simp at hh
theorem BookAt.rising {w : World} {bb mb : Nat} {l : IM Unit} {last most : Int} (h : BookAt w bb mb l last most) : Rising l := (rising_mapV unitV l).1 h.map.rising
def BookP (bb mb : Nat) (l : IM Unit) (last most : Int) : HP := fun w S => BookAt w bb mb l last most ∧ ∀ k, S k ↔ k = bb ∨ k = mb
theorem BookP.ok (bb mb : Nat) (l : IM Unit) (last most : Int) : (BookP bb mb l last most).Ok := by
  constructor
  · rintro w w' S T ⟨h, hs⟩ hm hd
    exact ⟨h.moved hm (hd _ ((hs _).2 (by simp))) (hd _ ((hs _).2 (by simp))), hs⟩
  · rintro w S ⟨h, hs⟩ k hk
    rcases (hs k).1 hk with rfl | rfl
    · exact heap_lt h.blk
    · exact h.map.lt

theorem zero_unit (w : World) : (zeroValue 245).run Tryz.prog w = .ok (.agg #[]) w := by kernel_rfl
theorem wf_i64 {x : Int} (h0 : -9223372036854775808 ≤ x) (h1 : x ≤ 9223372036854775807) : (Lit.int .i64 x).wf = true := by
  simp [Lit.wf, IntKind.min, IntKind.max, IntKind.bits, IntKind.signed]
  omega

set_option maxRecDepth 100000 in
theorem iNew_any (most : Int) (w : World) (hm : 0 ≤ most) :
    Calls Tryz.prog 41 #[.int .i64 most] w fun e w' => e = .returned (.pointer (some ⟨w.heap.size + 1, 0, none⟩)) ∧ Below w.heap.size w w' ∧ BookAt w' (w.heap.size + 1) w.heap.size [] 0 most := by
  have h1 : (if most < 0 then (0 : Int) else most) = most := by split <;> omega
  have h2 : (if most ≤ 0 then (0 : Int) else most) = most := by split <;> omega
  have hmm := @run_makeMap Tryz.prog
  go_enter Tryz.func41, Tryz.ntmps41
  go_wp2
  go_ret
  refine ⟨rfl, ((Below.refl _ _).alloc (Nat.le_refl _) _).alloc (by simp) _, ?_, ?_⟩
  · simpa using heap_alloc_eq (w.alloc (.map #[] 0)) (.cells #[.map (some w.heap.size), .int .i64 0, .int .i64 most] 189)
  · exact (MapAt.made w).later ((Below.refl _ _).alloc (Nat.le_refl _) _)

theorem iLast_any {bb mb : Nat} {l : IM Unit} {last most : Int} {w : World} (h : BookAt w bb mb l last most) :
    Calls Tryz.prog 149 #[.pointer (some ⟨bb, 0, none⟩)] w fun e w' => e = .returned (.int .i64 last) ∧ w = w' := by
  have c1 := heap_cell h.blk 1
  simp at c1
  clear h
  go_enter Tryz.func149, Tryz.ntmps149
  go_wp2
  go_ret
  exact ⟨rfl, rfl⟩

set_option maxRecDepth 100000 in
theorem iLives_any {bb mb : Nat} {l : IM Unit} {last most : Int} {w : World} (h : BookAt w bb mb l last most) (x : Int) (h0 : -9223372036854775808 ≤ x) (h1 : x ≤ 9223372036854775807) :
    Calls Tryz.prog 150 #[.pointer (some ⟨bb, 0, none⟩), .int .i64 x] w fun e w' => e = .returned (.bool (lk l x).isSome) ∧ Below w.heap.size w w' := by
  have c0 := heap_cell h.blk 0
  simp at c0
  have hl := h.map.look_ok Tryz.underlying3 Tryz.underlying187 (zero_unit w) x (wf_i64 h0 h1)
  rw [lk_mapV] at hl
  have e1 : ((lk l x).map unitV).getD (.agg #[]) = .agg #[] := by cases lk l x <;> rfl
  have e2 : ((lk l x).map unitV).isSome = (lk l x).isSome := by cases lk l x <;> rfl
  rw [e1, e2] at hl
  obtain ⟨r, hr⟩ : ∃ r, (lk l x).isSome = r := ⟨_, rfl⟩
  rw [hr] at hl ⊢
  clear h e1 e2 hr
  go_enter Tryz.func150, Tryz.ntmps150
  go_wp2
  go_ret
  exact ⟨rfl, (Below.refl _ _).alloc (Nat.le_refl _) _⟩

def gvE (l : IM Unit) (most : Int) : Int := if most ≤ l.length then 3 else 0
def gvN (l : IM Unit) (last most : Int) : Int := if most ≤ l.length then 0 else last + 1
def gvT (l : IM Unit) (last most : Int) : Int := if most ≤ l.length then last else last + 1
def gvL (l : IM Unit) (last most : Int) : IM Unit := if most ≤ l.length then l else mput l (last + 1) ()

set_option maxRecDepth 100000 in
set_option maxHeartbeats 1000000 in
theorem iGive_any {bb mb : Nat} {l : IM Unit} {last most : Int} {w : World} (h : BookAt w bb mb l last most) (h0 : 0 ≤ last) (h1 : last ≤ 1000000000) (hl : l.length ≤ 1000000000) :
    Calls Tryz.prog 102 #[.pointer (some ⟨bb, 0, none⟩)] w fun e w' => e = .returned (.tuple #[.int .i64 (gvN l last most), .int .i64 (gvE l most)]) ∧ Moved (fun q => q = bb ∨ q = mb) w w' ∧ BookAt w' bb mb (gvL l last most) (gvT l last most) most := by
  have H := Lib.hid h
  have c0 := heap_cell h.blk 0
  have c1 := heap_cell h.blk 1
  have c2 := heap_cell h.blk 2
  have d1 := heap_free h.blk 1
  simp at c0 c1 c2
  have hlen : ∀ nq ty, (Builtin.len_ #[187] ty #[.map (some mb)]).run Tryz.prog (w.drewN nq) = .ok (.int .i64 l.length) (w.drewN nq) := by
    intro nq ty
    have hm : MapAt .i64 3 (w.drewN nq) mb (mapV unitV l) := h.map.moved (Moved.drewN (fun _ => False) w nq) id
    have := hm.len Tryz.underlying187 ty
    rw [mapV_length] at this
    exact this
  obtain ⟨n, hn⟩ : ∃ n, l.length = n := ⟨_, rfl⟩
  rw [hn] at hlen hl
  have HN := Lib.hid hn
  clear h hn
  by_cases hc : most ≤ n
  · have e1 : Hid (gvE l most = 3) := Lib.hid (by rw [gvE, HN.out, if_pos hc])
    have e2 : Hid (gvN l last most = 0) := Lib.hid (by rw [gvN, HN.out, if_pos hc])
    have e3 : Hid (gvT l last most = last) := Lib.hid (by rw [gvT, HN.out, if_pos hc])
    have e4 : Hid (gvL l last most = l) := Lib.hid (by rw [gvL, HN.out, if_pos hc])
    go_enter Tryz.func102, Tryz.ntmps102
    go_wp2
    go_quiet (fail)
    go_wp2
    go_ret2
    exact ⟨by rw [e1.out, e2.out]; rfl, Moved.drewN _ _ _, by rw [e3.out, e4.out]; exact H.out.moved (Moved.drewN (fun _ => False) w _) id id⟩
  · have e1 : Hid (gvE l most = 0) := Lib.hid (by rw [gvE, HN.out, if_neg hc])
    have e2 : Hid (gvN l last most = last + 1) := Lib.hid (by rw [gvN, HN.out, if_neg hc])
    have e3 : Hid (gvT l last most = last + 1) := Lib.hid (by rw [gvT, HN.out, if_neg hc])
    have e4 : Hid (gvL l last most = mput l (last + 1) ()) := Lib.hid (by rw [gvL, HN.out, if_neg hc])
    go_enter Tryz.func102, Tryz.ntmps102
    go_wp2
    go_quiet (fail)
    go_wp2
    have hB2 : BookAt ((w.drewN nq).setCell ⟨bb, 1, none⟩ (.int .i64 (last + 1))) bb mb l (last + 1) most := by
      have hb : BookAt (w.drewN nq) bb mb l last most := H.out.moved (Moved.drewN (fun _ => False) w nq) id id
      refine ⟨by simpa using heap_set hb.blk 1 (.int .i64 (last + 1)), hb.map.moved (Moved.of_set (S := fun q => q = bb) _ bb 1 _ rfl) (fun e => hb.ne e.symm)⟩
    have hM2 : Moved (fun q => q = bb ∨ q = mb) w ((w.drewN nq).setCell ⟨bb, 1, none⟩ (.int .i64 (last + 1))) := (Moved.drewN _ w nq).trans (Moved.of_set (S := fun q => q = bb ∨ q = mb) _ bb 1 _ (.inl rfl)) (fun _ e => .inl e)
    have HB2 := Lib.hid (And.intro hB2 hM2)
    clear hB2 hM2 hlen c0 c1 c2 d1
    generalize hW2 : World.setCell _ _ _ = w2
    rw [hW2] at HB2
    clear hW2
    have c0 := heap_cell HB2.out.1.blk 0
    have c1 := heap_cell HB2.out.1.blk 1
    simp at c0 c1
    obtain ⟨w3, hr3, hm3, ht3⟩ := (HB2.out.1.map.moved (Moved.drew (fun _ => False) w2) id).store Tryz.underlying3 Tryz.underlying187 (by rw [mapV_length, HN.out]; unfold maxLen; omega) (last + 1) (.agg #[]) (wf_i64 (by omega) (by omega))
    have H3 := Lib.hid (And.intro hm3 ht3)
    have hmv : Moved (fun q => q = mb) w2 w3 := (Moved.drew _ w2).trans (Moved.turned H3.out.2) (fun _ e => .inl e)
    have hblk := hmv.heap HB2.out.1.blk HB2.out.1.ne
    have c3 := heap_cell hblk 1
    simp at c3
    have H4 := Lib.hid (And.intro hmv hblk)
    clear hm3 ht3 hmv hblk
    go_still_tail 9, (by kernel_rfl)
    change wpList _ _ _ _ _ w2.drew
    go_wp2
    go_ret2
    refine ⟨by rw [e1.out, e2.out]; rfl, HB2.out.2.trans H4.out.1 (fun _ e => .inl (.inr e)), ?_⟩
    rw [e3.out, e4.out]
    refine ⟨H4.out.2, ?_⟩
    have := H3.out.1
    rw [show (Value.agg #[]) = unitV () from rfl, mput_mapV] at this
    exact this
end Go.Proofs.YtcenagpkfimkbaaGreatDoor
namespace Go.Proofs.YtcenagpkfimkbaaGreatDoor
open Go Go.RowKit

structure OneMapAt (T : TypeId) (w : World) (tb mb : Nat) (m : IM Int) : Prop where
  blk : w.heap[tb]? = some (.cells #[.map (some mb)] T (0, 0))
  map : MapAt .i64 3 w mb (mapV (Value.int .i64) m)
section
variable {T : TypeId} {w w' : World} {tb mb : Nat} {m : IM Int}
theorem OneMapAt.moved {U : Nat → Prop} (h : OneMapAt T w tb mb m) (hm : Moved U w w') (h1 : ¬ U tb) (h2 : ¬ U mb) : OneMapAt T w' tb mb m := ⟨hm.heap h.blk h1, h.map.moved hm h2⟩
theorem OneMapAt.later (h : OneMapAt T w tb mb m) (hb : Below w.heap.size w w') : OneMapAt T w' tb mb m := h.moved (Moved.of_below hb (fun _ => False)) id id
theorem OneMapAt.ne (h : OneMapAt T w tb mb m) : tb ≠ mb := by
  obtain ⟨es, clock, hh⟩ := h.map.block
  rintro rfl
  rw [h.blk] at hh
  simp at hh
theorem OneMapAt.rising (h : OneMapAt T w tb mb m) : Rising m := (rising_mapV _ m).1 h.map.rising
theorem OneMapAt.put (h : OneMapAt T w tb mb m) {x v : Int} (hm : MapAt .i64 3 w' mb (mput (mapV (Value.int .i64) m) x (.int .i64 v))) (ht : w.mapTurned w' mb) : OneMapAt T w' tb mb (mput m x v) :=
  ⟨(Moved.turned ht).heap h.blk h.ne, by rw [← mput_mapV]; exact hm⟩
theorem OneMapAt.del (h : OneMapAt T w tb mb m) {x : Int} (hm : MapAt .i64 3 w' mb (mdel (mapV (Value.int .i64) m) x)) (ht : w.mapTurned w' mb) : OneMapAt T w' tb mb (mdel m x) :=
  ⟨(Moved.turned ht).heap h.blk h.ne, by rw [← mdel_mapV]; exact hm⟩
end
def OneMapP (T : TypeId) (tb mb : Nat) (m : IM Int) : HP := fun w S => OneMapAt T w tb mb m ∧ ∀ k, S k ↔ k = tb ∨ k = mb
theorem OneMapP.ok (T : TypeId) (tb mb : Nat) (m : IM Int) : (OneMapP T tb mb m).Ok := by
  constructor
  · rintro w w' S U ⟨h, hs⟩ hm hd
    exact ⟨h.moved hm (hd _ ((hs _).2 (by simp))) (hd _ ((hs _).2 (by simp))), hs⟩
  · rintro w S ⟨h, hs⟩ k hk
    rcases (hs k).1 hk with rfl | rfl
    · exact heap_lt h.blk
    · exact h.map.lt
abbrev TreeAt := OneMapAt 191
abbrev TallyAt := OneMapAt 193

theorem zero_int (w : World) : (zeroValue 3).run Tryz.prog w = .ok (.int .i64 0) w := by kernel_rfl
def at0 (m : IM Int) (x : Int) : Int := (lk m x).getD 0
theorem look_int {w : World} {mb : Nat} {m : IM Int} (h : MapAt .i64 3 w mb (mapV (Value.int .i64) m)) (x : Int) (h0 : -9223372036854775808 ≤ x) (h1 : x ≤ 9223372036854775807) :
    (Instr.lookup 61 (.map (some mb)) (.int .i64 x) false).run Tryz.prog w = .ok (.int .i64 (at0 m x)) w := by
  have hl := h.lookup Tryz.underlying3 Tryz.underlying61 (zero_int w) x (wf_i64 h0 h1)
  rw [lk_mapV] at hl
  rw [hl, at0]
  cases lk m x <;> rfl
theorem look_int_ok {w : World} {mb : Nat} {m : IM Int} (h : MapAt .i64 3 w mb (mapV (Value.int .i64) m)) (x : Int) (h0 : -9223372036854775808 ≤ x) (h1 : x ≤ 9223372036854775807) :
    (Instr.lookup 61 (.map (some mb)) (.int .i64 x) true).run Tryz.prog w = .ok (.tuple #[.int .i64 (at0 m x), .bool (lk m x).isSome]) w := by
  have hl := h.look_ok Tryz.underlying3 Tryz.underlying61 (zero_int w) x (wf_i64 h0 h1)
  rw [lk_mapV] at hl
  rw [hl, at0]
  cases lk m x <;> rfl

theorem trNew_any (w : World) : Calls Tryz.prog 42 #[] w fun e w' => e = .returned (.pointer (some ⟨w.heap.size + 1, 0, none⟩)) ∧ Below w.heap.size w w' ∧ TreeAt w' (w.heap.size + 1) w.heap.size [] := by
  have hmm := @run_makeMap Tryz.prog
  go_enter Tryz.func42, Tryz.ntmps42
  go_wp2
  go_ret
  refine ⟨rfl, ((Below.refl _ _).alloc (Nat.le_refl _) _).alloc (by simp) _, ?_, ?_⟩
  · simpa using heap_alloc_eq (w.alloc (.map #[] 0)) (.cells #[.map (some w.heap.size)] 191)
  · exact (MapAt.made w).later ((Below.refl _ _).alloc (Nat.le_refl _) _)
theorem taNew_any (w : World) : Calls Tryz.prog 43 #[] w fun e w' => e = .returned (.pointer (some ⟨w.heap.size + 1, 0, none⟩)) ∧ Below w.heap.size w w' ∧ TallyAt w' (w.heap.size + 1) w.heap.size [] := by
  have hmm := @run_makeMap Tryz.prog
  go_enter Tryz.func43, Tryz.ntmps43
  go_wp2
  go_ret
  refine ⟨rfl, ((Below.refl _ _).alloc (Nat.le_refl _) _).alloc (by simp) _, ?_, ?_⟩
  · simpa using heap_alloc_eq (w.alloc (.map #[] 0)) (.cells #[.map (some w.heap.size)] 193)
  · exact (MapAt.made w).later ((Below.refl _ _).alloc (Nat.le_refl _) _)

theorem trHas_any {tb mb : Nat} {m : IM Int} {w : World} (h : TreeAt w tb mb m) (x : Int) (h0 : -9223372036854775808 ≤ x) (h1 : x ≤ 9223372036854775807) :
    Calls Tryz.prog 151 #[.pointer (some ⟨tb, 0, none⟩), .int .i64 x] w fun e w' => e = .returned (.bool (lk m x).isSome) ∧ w = w' := by
  have c0 := heap_cell h.blk 0
  simp at c0
  have hl := look_int_ok h.map x h0 h1
  obtain ⟨r, hr⟩ : ∃ r, (lk m x).isSome = r := ⟨_, rfl⟩
  rw [hr] at hl ⊢
  clear h hr
  go_enter Tryz.func151, Tryz.ntmps151
  go_wp2
  go_ret
  exact ⟨rfl, rfl⟩
theorem taOf_any {tb mb : Nat} {m : IM Int} {w : World} (h : TallyAt w tb mb m) (x : Int) (h0 : -9223372036854775808 ≤ x) (h1 : x ≤ 9223372036854775807) :
    Calls Tryz.prog 107 #[.pointer (some ⟨tb, 0, none⟩), .int .i64 x] w fun e w' => e = .returned (.int .i64 (at0 m x)) ∧ w = w' := by
  have c0 := heap_cell h.blk 0
  simp at c0
  have hl := look_int h.map x h0 h1
  obtain ⟨r, hr⟩ : ∃ r, at0 m x = r := ⟨_, rfl⟩
  rw [hr] at hl ⊢
  clear h hr
  go_enter Tryz.func107, Tryz.ntmps107
  go_wp2
  go_ret
  exact ⟨rfl, rfl⟩

def trE (m : IM Int) (x p : Int) : Int := if x < 1 ∨ (lk m x).isSome = true then 1 else if p ≠ 0 ∧ (lk m p).isSome = false then 2 else 0
def trL (m : IM Int) (x p : Int) : IM Int := if trE m x p = 0 then mput m x p else m

set_option maxRecDepth 100000 in
set_option maxHeartbeats 1000000 in
theorem trAdd_any {tb mb : Nat} {m : IM Int} {w : World} (h : TreeAt w tb mb m) (x p : Int) (h0 : -9223372036854775808 ≤ x) (h1 : x ≤ 9223372036854775807) (p0 : -9223372036854775808 ≤ p) (p1 : p ≤ 9223372036854775807) (hl : m.length ≤ 1000000000) :
    Calls Tryz.prog 103 #[.pointer (some ⟨tb, 0, none⟩), .int .i64 x, .int .i64 p] w fun e w' => e = .returned (.int .i64 (trE m x p)) ∧ Moved (fun q => q = mb) w w' ∧ TreeAt w' tb mb (trL m x p) := by
  have H := Lib.hid h
  have hx := trHas_any h x h0 h1
  have hp := trHas_any h p p0 p1
  have c0 := heap_cell h.blk 0
  simp at c0
  obtain ⟨w3, hr3, hm3, ht3⟩ := h.map.store Tryz.underlying3 Tryz.underlying61 (by rw [mapV_length]; unfold maxLen; omega) x (.int .i64 p) (wf_i64 h0 h1)
  have H3 := Lib.hid (And.intro (h.put hm3 ht3) ht3)
  clear h hm3 ht3
  by_cases hx1 : x < 1
  · have e1 : Hid (trE m x p = 1) := Lib.hid (by rw [trE, if_pos (.inl hx1)])
    have e2 : Hid (trL m x p = m) := Lib.hid (by rw [trL, e1.out]; rfl)
    clear hx hp hr3 c0
    go_enter Tryz.func103, Tryz.ntmps103
    go_wp2
    go_ret
    exact ⟨by rw [e1.out]; rfl, Moved.refl _ _, by rw [e2.out]; exact H.out⟩
  · cases hs : (lk m x).isSome
    · rw [hs] at hx
      by_cases hp0 : p = 0
      · subst hp0
        have e1 : Hid (trE m x 0 = 0) := Lib.hid (by rw [trE, if_neg (by simp [hx1, hs]), if_neg (by simp)])
        have e2 : Hid (trL m x 0 = mput m x 0) := Lib.hid (by rw [trL, e1.out]; rfl)
        clear hp hs
        go_enter Tryz.func103, Tryz.ntmps103
        go_wp2_with fail
        refine hx.mono ?_
        rintro e w1 ⟨rfl, rfl⟩
        clear hx
        go_wp2
        go_ret
        exact ⟨by rw [e1.out]; rfl, Moved.turned H3.out.2, by rw [e2.out]; exact H3.out.1⟩
      · have y1 : (p != 0) = true := by simpa using hp0
        cases hq : (lk m p).isSome
        · have e1 : Hid (trE m x p = 2) := Lib.hid (by rw [trE, if_neg (by simp [hx1, hs]), if_pos ⟨hp0, hq⟩])
          have e2 : Hid (trL m x p = m) := Lib.hid (by rw [trL, e1.out]; rfl)
          rw [hq] at hp
          clear hs hq hp0 hr3 c0
          go_enter Tryz.func103, Tryz.ntmps103
          go_wp2_with fail
          refine hx.mono ?_
          rintro e w1 ⟨rfl, rfl⟩
          clear hx
          go_wp2_with fail
          refine hp.mono ?_
          rintro e w1 ⟨rfl, rfl⟩
          clear hp
          go_wp2
          go_ret
          exact ⟨by rw [e1.out]; rfl, Moved.refl _ _, by rw [e2.out]; exact H.out⟩
        · have e1 : Hid (trE m x p = 0) := Lib.hid (by rw [trE, if_neg (by simp [hx1, hs]), if_neg (by simp [hq])])
          have e2 : Hid (trL m x p = mput m x p) := Lib.hid (by rw [trL, e1.out]; rfl)
          rw [hq] at hp
          clear hs hq hp0
          go_enter Tryz.func103, Tryz.ntmps103
          go_wp2_with fail
          refine hx.mono ?_
          rintro e w1 ⟨rfl, rfl⟩
          clear hx
          go_wp2_with fail
          refine hp.mono ?_
          rintro e w1 ⟨rfl, rfl⟩
          clear hp
          go_wp2
          go_ret
          exact ⟨by rw [e1.out]; rfl, Moved.turned H3.out.2, by rw [e2.out]; exact H3.out.1⟩
    · have e1 : Hid (trE m x p = 1) := Lib.hid (by rw [trE, if_pos (.inr hs)])
      have e2 : Hid (trL m x p = m) := Lib.hid (by rw [trL, e1.out]; rfl)
      rw [hs] at hx
      clear hp hs hr3 c0
      go_enter Tryz.func103, Tryz.ntmps103
      go_wp2_with fail
      refine hx.mono ?_
      rintro e w1 ⟨rfl, rfl⟩
      clear hx
      go_wp2
      go_ret
      exact ⟨by rw [e1.out]; rfl, Moved.refl _ _, by rw [e2.out]; exact H.out⟩
end Go.Proofs.YtcenagpkfimkbaaGreatDoor
namespace Go.Proofs.YtcenagpkfimkbaaGreatDoor
open Go Go.RowKit

def tSet (m : IM Int) (x n : Int) : IM Int := if n = 0 then mdel m x else mput m x n
theorem tSet_rising {m : IM Int} (h : Rising m) (x n : Int) : Rising (tSet m x n) := by
  unfold tSet
  split
  · exact h.del x
  · exact h.put x n
theorem at0_tSet {m : IM Int} (h : Rising m) (x n y : Int) : at0 (tSet m x n) y = if y = x then n else at0 m y := by
  unfold at0 tSet
  split
  · rename_i hn
    rw [lk_del h]
    split
    · simp [hn]
    · rfl
  · rw [lk_put h]
    split <;> rfl
theorem tSet_length (m : IM Int) (x n : Int) : (tSet m x n).length ≤ m.length + 1 := by
  unfold tSet
  split
  · have := mdel_length m x; omega
  · exact mput_length m x n

set_option maxRecDepth 100000 in
theorem taset_any {tb mb : Nat} {m : IM Int} {w : World} (h : TallyAt w tb mb m) (x n : Int) (h0 : -9223372036854775808 ≤ x) (h1 : x ≤ 9223372036854775807) (hl : m.length ≤ 1000000000) :
    Calls Tryz.prog 156 #[.pointer (some ⟨tb, 0, none⟩), .int .i64 x, .int .i64 n] w fun e w' => e = .returned (.tuple #[]) ∧ Moved (fun q => q = mb) w w' ∧ TallyAt w' tb mb (tSet m x n) := by
  have c0 := heap_cell h.blk 0
  simp at c0
  by_cases hn : n = 0
  · subst hn
    obtain ⟨w3, hr3, hm3, ht3⟩ := h.map.drop Tryz.underlying3 Tryz.underlying61 x (wf_i64 h0 h1) 0
    have H3 := Lib.hid (And.intro (h.del hm3 ht3) ht3)
    have e2 : Hid (tSet m x 0 = mdel m x) := Lib.hid (by rw [tSet, if_pos rfl])
    clear h hm3 ht3
    go_enter Tryz.func156, Tryz.ntmps156
    go_wp2
    refine bodyPost_ret (v := .tuple #[]) (by simp [results, Tryz.results156, go_sem]) rfl ?_
    exact ⟨rfl, Moved.turned H3.out.2, by rw [e2.out]; exact H3.out.1⟩
  · have y1 : (n == 0) = false := by simpa using hn
    obtain ⟨w3, hr3, hm3, ht3⟩ := h.map.store Tryz.underlying3 Tryz.underlying61 (by rw [mapV_length]; unfold maxLen; omega) x (.int .i64 n) (wf_i64 h0 h1)
    have H3 := Lib.hid (And.intro (h.put hm3 ht3) ht3)
    have e2 : Hid (tSet m x n = mput m x n) := Lib.hid (by rw [tSet, if_neg hn])
    clear h hm3 ht3 hn
    go_enter Tryz.func156, Tryz.ntmps156
    go_wp2
    go_end0
    exact ⟨rfl, Moved.turned H3.out.2, by rw [e2.out]; exact H3.out.1⟩


def Told (m : IM Int) : Prop := ∀ x, 0 ≤ at0 m x ∧ at0 m x ≤ 2147483647
def taE (m : IM Int) (x n : Int) : Int := if x < 1 then 1 else if n < -(at0 m x) ∨ 2147483647 - at0 m x < n then 8 else 0
def taL (m : IM Int) (x n : Int) : IM Int := if taE m x n = 0 then tSet m x (at0 m x + n) else m

set_option maxRecDepth 100000 in
set_option maxHeartbeats 1000000 in
theorem taAdd_any {tb mb : Nat} {m : IM Int} {w : World} (h : TallyAt w tb mb m) (ht : Told m) (x n : Int) (h0 : -9223372036854775808 ≤ x) (h1 : x ≤ 9223372036854775807) (n0 : -9223372036854775808 ≤ n) (n1 : n ≤ 9223372036854775807) (hl : m.length ≤ 1000000000) :
    Calls Tryz.prog 109 #[.pointer (some ⟨tb, 0, none⟩), .int .i64 x, .int .i64 n] w fun e w' => e = .returned (.int .i64 (taE m x n)) ∧ Moved (fun q => q = mb) w w' ∧ TallyAt w' tb mb (taL m x n) := by
  have H := Lib.hid h
  have hO := taOf_any h x h0 h1
  have hS := taset_any h x (at0 m x + n) h0 h1 hl
  have hb := ht x
  have e0 : Hid (taE m x n = if x < 1 then 1 else if n < -(at0 m x) ∨ 2147483647 - at0 m x < n then 8 else 0) := Lib.hid rfl
  have e9 : Hid (taE m x n = 0 → taL m x n = tSet m x (at0 m x + n)) := Lib.hid (fun h => by rw [taL, if_pos h])
  have e8 : Hid (taE m x n ≠ 0 → taL m x n = m) := Lib.hid (fun h => by rw [taL, if_neg h])
  obtain ⟨v, hv⟩ : ∃ v, at0 m x = v := ⟨_, rfl⟩
  rw [hv] at hO hS hb e0 e9
  obtain ⟨hb0, hb1⟩ := hb
  clear h ht hv
  by_cases hx : x < 1
  · have e1 : Hid (taE m x n = 1) := Lib.hid (by rw [e0.out, if_pos hx])
    clear hS
    go_enter Tryz.func109, Tryz.ntmps109
    go_wp2_with fail
    refine hO.mono ?_
    rintro e w1 ⟨rfl, rfl⟩
    clear hO
    go_wp2
    go_ret
    exact ⟨by rw [e1.out]; rfl, Moved.refl _ _, by rw [e8.out (by rw [e1.out]; decide)]; exact H.out⟩
  · have y5 : IntKind.i64.wrap (-v) = -v := by rw [IntKind.wrap_i64]; omega
    have y6 : IntKind.i64.wrap (2147483647 - v) = 2147483647 - v := by rw [IntKind.wrap_i64]; omega
    rcases (show n < -v ∨ (¬ n < -v ∧ 2147483647 - v < n) ∨ (¬ n < -v ∧ ¬ 2147483647 - v < n) by omega) with hc | ⟨hc, hd⟩ | ⟨hc, hd⟩
    · have e1 : Hid (taE m x n = 8) := Lib.hid (by rw [e0.out, if_neg hx, if_pos (.inl hc)])
      clear hS
      go_enter Tryz.func109, Tryz.ntmps109
      go_wp2_with fail
      refine hO.mono ?_
      rintro e w1 ⟨rfl, rfl⟩
      clear hO
      go_wp2
      go_ret
      exact ⟨by rw [e1.out]; rfl, Moved.refl _ _, by rw [e8.out (by rw [e1.out]; decide)]; exact H.out⟩
    · have e1 : Hid (taE m x n = 8) := Lib.hid (by rw [e0.out, if_neg hx, if_pos (.inr hd)])
      clear hS
      go_enter Tryz.func109, Tryz.ntmps109
      go_wp2_with fail
      refine hO.mono ?_
      rintro e w1 ⟨rfl, rfl⟩
      clear hO
      go_wp2
      go_ret
      exact ⟨by rw [e1.out]; rfl, Moved.refl _ _, by rw [e8.out (by rw [e1.out]; decide)]; exact H.out⟩
    · have e1 : Hid (taE m x n = 0) := Lib.hid (by rw [e0.out, if_neg hx, if_neg (by omega)])
      have n2 : n ≤ 2147483647 := by omega
      have n3 : -2147483647 ≤ n := by omega
      go_enter Tryz.func109, Tryz.ntmps109
      go_wp2_with fail
      refine hO.mono ?_
      rintro e w1 ⟨rfl, rfl⟩
      clear hO
      go_wp2_with fail
      refine hS.mono ?_
      rintro e w2 ⟨rfl, hm2, ht2⟩
      clear hS
      go_wp2
      go_ret
      exact ⟨by rw [e1.out]; rfl, hm2, by rw [e9.out e1.out]; exact ht2⟩

def swE (m : IM Int) (a b : Int) : Int := if a < 0 ∨ b < 0 then 1 else if (a ≠ 0 ∧ at0 m a = 0) ∨ (b ≠ 0 ∧ b ≠ a ∧ at0 m b = 2147483647) then 8 else 0
def swM (m : IM Int) (a : Int) : IM Int := if a ≠ 0 then tSet m a (at0 m a - 1) else m
def swL (m : IM Int) (a b : Int) : IM Int := if swE m a b = 0 then (if b ≠ 0 then tSet (swM m a) b (at0 (swM m a) b + 1) else swM m a) else m
theorem Told.sw {m : IM Int} (h : Told m) (hr : Rising m) {a : Int} (ha : a ≠ 0 → at0 m a ≠ 0) : Told (swM m a) := by
  intro x
  unfold swM
  split
  · rename_i h0
    rw [at0_tSet hr]
    split
    · have := h a; have := ha h0; omega
    · exact h x
  · exact h x
theorem sw_le {m : IM Int} (h : Told m) (hr : Rising m) {a b : Int} (h1 : ¬ (b ≠ 0 ∧ b ≠ a ∧ at0 m b = 2147483647)) (hb : b ≠ 0) (ha : a ≠ 0 → at0 m a ≠ 0) : at0 (swM m a) b + 1 ≤ 2147483647 := by
  unfold swM
  split
  · rename_i h0
    rw [at0_tSet hr]
    split
    · rename_i e; have := h a; omega
    · rename_i e; have := h b; omega
  · rename_i h0
    have h0 : a = 0 := by simpa using h0
    have := h b
    omega

set_option maxRecDepth 100000 in
set_option maxHeartbeats 2000000 in
theorem taSwap_any {tb mb : Nat} {m : IM Int} {w : World} (h : TallyAt w tb mb m) (ht : Told m) (a b : Int) (a0 : -9223372036854775808 ≤ a) (a1 : a ≤ 9223372036854775807) (b0 : -9223372036854775808 ≤ b) (b1 : b ≤ 9223372036854775807) (hl : m.length ≤ 100000000) :
    Calls Tryz.prog 169 #[.pointer (some ⟨tb, 0, none⟩), .int .i64 a, .int .i64 b] w fun e w' => e = .returned (.int .i64 (swE m a b)) ∧ Moved (fun q => q = mb) w w' ∧ TallyAt w' tb mb (swL m a b) := by
  have H := Lib.hid h
  have hr := h.rising
  have hA := taOf_any h a a0 a1
  have hB := taOf_any h b b0 b1
  have e8 : Hid (swE m a b ≠ 0 → swL m a b = m) := Lib.hid (fun h => by rw [swL, if_neg h])
  by_cases c1 : a < 0
  · have e1 : Hid (swE m a b = 1) := Lib.hid (by rw [swE, if_pos (.inl c1)])
    clear h hr hA hB ht
    go_enter Tryz.func169, Tryz.ntmps169
    go_wp2
    go_ret
    exact ⟨by rw [e1.out]; rfl, Moved.refl _ _, by rw [e8.out (by rw [e1.out]; decide)]; exact H.out⟩
  by_cases c2 : b < 0
  · have e1 : Hid (swE m a b = 1) := Lib.hid (by rw [swE, if_pos (.inr c2)])
    clear h hr hA hB ht
    go_enter Tryz.func169, Tryz.ntmps169
    go_wp2
    go_ret
    exact ⟨by rw [e1.out]; rfl, Moved.refl _ _, by rw [e8.out (by rw [e1.out]; decide)]; exact H.out⟩

  by_cases c3 : a = 0
  · subst c3
    by_cases c4 : b = 0
    · subst c4
      have e1 : Hid (swE m 0 0 = 0) := Lib.hid (by simp [swE])
      have e2 : Hid (swL m 0 0 = m) := Lib.hid (by rw [swL, if_pos e1.out]; simp [swM])
      clear hr ht
      clear h
      go_enter Tryz.func169, Tryz.ntmps169
      have H2 := Lib.hid (And.intro (Moved.refl (fun q => q = mb) w) H.out)
      clear hA hB
      go_wp2
      go_ret
      exact ⟨by rw [e1.out]; rfl, H2.out.1, by rw [e2.out]; exact H2.out.2⟩
    · have y1 : (b != 0) = true := by simpa using c4
      by_cases c5 : at0 m b = 2147483647
      · have e1 : Hid (swE m 0 b = 8) := Lib.hid (by rw [swE, if_neg (by omega), if_pos (.inr ⟨c4, c4, c5⟩)])
        rw [c5] at hB
        clear hr ht c4 c5
        clear h
        go_enter Tryz.func169, Tryz.ntmps169
        go_wp2_with fail
        refine hB.mono ?_
        rintro e w9 ⟨rfl, rfl⟩
        clear hA hB
        go_wp2
        go_ret
        exact ⟨by rw [e1.out]; rfl, Moved.refl _ _, by rw [e8.out (by rw [e1.out]; decide)]; exact H.out⟩
      · have e1 : Hid (swE m 0 b = 0) := Lib.hid (by rw [swE, if_neg (by omega), if_neg (by simp [c5])])
        have e3 : swM m 0 = m := by simp [swM]
        have hb := ht b
        obtain ⟨u, hu⟩ : ∃ u, at0 m b = u := ⟨_, rfl⟩
        have e2 : Hid (swL m 0 b = tSet m b (u + 1)) := Lib.hid (by rw [swL, if_pos e1.out, if_pos c4, e3, hu])
        have y2 : (u == 2147483647) = false := by rw [← hu]; simpa using c5
        rw [hu] at hB hb
        obtain ⟨hb2, hb3⟩ := hb
        have HU := Lib.hid hu
        have HL : Hid (m.length ≤ 1000000000) := Lib.hid (by omega)
        clear hr ht c4 c5 e3 hu
        clear h
        go_enter Tryz.func169, Tryz.ntmps169
        go_wp2_with fail
        refine hB.mono ?_
        rintro e w9 ⟨rfl, rfl⟩
        have H2 := Lib.hid (And.intro (Moved.refl (fun q => q = mb) w) H.out)
        clear hA hB
        have hB2 := taOf_any H2.out.2 b b0 b1
        have hS2 := taset_any H2.out.2 b (u + 1) b0 b1 HL.out
        rw [HU.out] at hB2
        go_wp2_with fail
        refine hB2.mono ?_
        rintro e w9 ⟨rfl, rfl⟩
        clear hB2
        go_wp2_with fail
        refine hS2.mono ?_
        rintro e w3 ⟨rfl, hm3, ht3⟩
        clear hS2
        go_wp2
        go_ret
        exact ⟨by rw [e1.out]; rfl, H2.out.1.trans hm3 (fun _ e => .inl e), by rw [e2.out]; exact ht3⟩
  · have x1 : (a != 0) = true := by simpa using c3
    by_cases c6 : at0 m a = 0
    · have e1 : Hid (swE m a b = 8) := Lib.hid (by rw [swE, if_neg (by omega), if_pos (.inl ⟨c3, c6⟩)])
      rw [c6] at hA
      clear hr ht c3 c6
      clear h
      go_enter Tryz.func169, Tryz.ntmps169
      go_wp2_with fail
      refine hA.mono ?_
      rintro e w9 ⟨rfl, rfl⟩
      clear hA hB
      go_wp2
      go_ret
      exact ⟨by rw [e1.out]; rfl, Moved.refl _ _, by rw [e8.out (by rw [e1.out]; decide)]; exact H.out⟩
    · have hS := taset_any h a (at0 m a - 1) a0 a1 (by omega)
      have hT : Told (swM m a) := ht.sw hr (fun _ => c6)
      have e3 : tSet m a (at0 m a - 1) = swM m a := by rw [swM, if_pos c3]
      rw [e3] at hS
      have hlen : (swM m a).length ≤ 1000000000 := by rw [← e3]; have := tSet_length m a (at0 m a - 1); omega
      have HL := Lib.hid hlen
      have ha := ht a
      obtain ⟨v, hv⟩ : ∃ v, at0 m a = v := ⟨_, rfl⟩
      rw [hv] at hA hS ha c6
      obtain ⟨ha2, ha3⟩ := ha
      have x2 : (v == 0) = false := by simpa using c6
      by_cases c4 : b = 0
      · subst c4
        have e1 : Hid (swE m a 0 = 0) := Lib.hid (by rw [swE, if_neg (by omega), if_neg (by simp [c3, hv, c6])])
        have e2 : Hid (swL m a 0 = swM m a) := Lib.hid (by rw [swL, if_pos e1.out]; simp)
        clear hr ht c3 c6 hT e3 hlen hv
        clear h
        go_enter Tryz.func169, Tryz.ntmps169
        go_wp2_with fail
        refine hA.mono ?_
        rintro e w9 ⟨rfl, rfl⟩
        go_wp2_with fail
        refine hA.mono ?_
        rintro e w9 ⟨rfl, rfl⟩
        clear hA hB
        go_wp2_with fail
        refine hS.mono ?_
        rintro e w2 ⟨rfl, hm2, ht2⟩
        have H2 := Lib.hid (And.intro hm2 ht2)
        clear hS hm2 ht2
        go_wp2
        go_ret
        exact ⟨by rw [e1.out]; rfl, H2.out.1, by rw [e2.out]; exact H2.out.2⟩
      · have y1 : (b != 0) = true := by simpa using c4
        have hb := hT b
        obtain ⟨u, hu⟩ : ∃ u, at0 (swM m a) b = u := ⟨_, rfl⟩
        by_cases c7 : b = a
        · have y3 : (b != a) = false := by simpa using c7
          have e1 : Hid (swE m a b = 0) := Lib.hid (by rw [swE, if_neg (by omega), if_neg (by simp [c7, hv, c6])])
          have e2 : Hid (swL m a b = tSet (swM m a) b (u + 1)) := Lib.hid (by rw [swL, if_pos e1.out, if_pos c4, hu])
          rw [hu] at hb
          obtain ⟨hb2, hb3⟩ := hb
          have HU := Lib.hid hu
          clear hr ht c3 c4 c6 c7 hT e3 hlen hv hu
          clear h
          go_enter Tryz.func169, Tryz.ntmps169
          go_wp2_with fail
          refine hA.mono ?_
          rintro e w9 ⟨rfl, rfl⟩
          go_wp2_with fail
          refine hA.mono ?_
          rintro e w9 ⟨rfl, rfl⟩
          clear hA hB
          go_wp2_with fail
          refine hS.mono ?_
          rintro e w2 ⟨rfl, hm2, ht2⟩
          have H2 := Lib.hid (And.intro hm2 ht2)
          clear hS hm2 ht2
          have hB2 := taOf_any H2.out.2 b b0 b1
          have hS2 := taset_any H2.out.2 b (u + 1) b0 b1 HL.out
          rw [HU.out] at hB2
          go_wp2_with fail
          refine hB2.mono ?_
          rintro e w9 ⟨rfl, rfl⟩
          clear hB2
          go_wp2_with fail
          refine hS2.mono ?_
          rintro e w3 ⟨rfl, hm3, ht3⟩
          clear hS2
          go_wp2
          go_ret
          exact ⟨by rw [e1.out]; rfl, H2.out.1.trans hm3 (fun _ e => .inl e), by rw [e2.out]; exact ht3⟩
        · have y3 : (b != a) = true := by simpa using c7
          by_cases c5 : at0 m b = 2147483647
          · have e1 : Hid (swE m a b = 8) := Lib.hid (by rw [swE, if_neg (by omega), if_pos (.inr ⟨c4, c7, c5⟩)])
            rw [c5] at hB
            clear hr ht c3 c4 c5 c6 c7 hT e3 hlen hv hu hb hS
            clear h
            go_enter Tryz.func169, Tryz.ntmps169
            go_wp2_with fail
            refine hA.mono ?_
            rintro e w9 ⟨rfl, rfl⟩
            go_wp2_with fail
            refine hB.mono ?_
            rintro e w9 ⟨rfl, rfl⟩
            clear hA hB
            go_wp2
            go_ret
            exact ⟨by rw [e1.out]; rfl, Moved.refl _ _, by rw [e8.out (by rw [e1.out]; decide)]; exact H.out⟩
          · have e1 : Hid (swE m a b = 0) := Lib.hid (by rw [swE, if_neg (by omega), if_neg (by simp [c5, hv, c6])])
            have e2 : Hid (swL m a b = tSet (swM m a) b (u + 1)) := Lib.hid (by rw [swL, if_pos e1.out, if_pos c4, hu])
            rw [hu] at hb
            obtain ⟨hb2, hb3⟩ := hb
            have HU := Lib.hid hu
            obtain ⟨z, hz⟩ : ∃ z, at0 m b = z := ⟨_, rfl⟩
            rw [hz] at hB c5
            have y4 : (z == 2147483647) = false := by simpa using c5
            clear hr ht c3 c4 c5 c6 c7 hT e3 hlen hv hu hz
            clear h
            go_enter Tryz.func169, Tryz.ntmps169
            go_wp2_with fail
            refine hA.mono ?_
            rintro e w9 ⟨rfl, rfl⟩
            go_wp2_with fail
            refine hB.mono ?_
            rintro e w9 ⟨rfl, rfl⟩
            go_wp2_with fail
            refine hA.mono ?_
            rintro e w9 ⟨rfl, rfl⟩
            clear hA hB
            go_wp2_with fail
            refine hS.mono ?_
            rintro e w2 ⟨rfl, hm2, ht2⟩
            have H2 := Lib.hid (And.intro hm2 ht2)
            clear hS hm2 ht2
            have hB2 := taOf_any H2.out.2 b b0 b1
            have hS2 := taset_any H2.out.2 b (u + 1) b0 b1 HL.out
            rw [HU.out] at hB2
            go_wp2_with fail
            refine hB2.mono ?_
            rintro e w9 ⟨rfl, rfl⟩
            clear hB2
            go_wp2_with fail
            refine hS2.mono ?_
            rintro e w3 ⟨rfl, hm3, ht3⟩
            clear hS2
            go_wp2
            go_ret
            exact ⟨by rw [e1.out]; rfl, H2.out.1.trans hm3 (fun _ e => .inl e), by rw [e2.out]; exact ht3⟩
end Go.Proofs.YtcenagpkfimkbaaGreatDoor
