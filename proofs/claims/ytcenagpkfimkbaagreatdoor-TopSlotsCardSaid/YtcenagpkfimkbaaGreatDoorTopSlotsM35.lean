/-
  Contracts of functions of the program, laid together.
-/
import Derived.Test.YtcenagpkfimkbaaGreatDoorTopSlotsM5
import Derived.Test.YtcenagpkfimkbaaGreatDoorTopSlotsM27
import Derived.Deep.RegionHeldLaw
namespace Go.Proofs.YtcenagpkfimkbaaGreatDoor
open Go Go.RowKit

theorem run_append_two {w : World} (ty : TypeId) {base B2 : Nat} {v1 v2 : Value} {xs ys : List Int} (h1 : w.ownsRow base 34 1 v1 xs.length (xs.map (Value.int .u64))) (h2 : w.ownsRow B2 34 1 v2 ys.length (ys.map (Value.int .u64)))
    (hb : base ≤ w.heap.size) (hl : xs.length + ys.length ≤ 100000) :
    ∃ v' w', (Builtin.append_ #[43, 43] ty #[v1, v2]).run Tryz.prog w = .ok v' w' ∧ w'.ownsRow base 34 1 v' (xs ++ ys).length ((xs ++ ys).map (Value.int .u64)) ∧ w.grownBy w' v1.ownBlock := by
  obtain ⟨i1, hi1, hy0, hy1, hy2⟩ := info_parts info_u64
  obtain ⟨a, cap, rfl, hc, hn, _⟩ := owns_slice h2
  obtain ⟨a', cap', he, hr, _, _⟩ := owns_reads h2
  cases he
  rcases a with _ | ad
  · obtain ⟨hn1, rfl⟩ := hn rfl
    obtain rfl := List.length_eq_zero_iff.1 hn1
    exact ⟨v1, w, run_append_owned_none w base _ _ 34 i1 1 Tryz.underlying43 hi1 v1 _ _ h1, by simpa using h1, grown_refl _ _⟩
  · obtain ⟨v', w', e1, e2, e3, _⟩ := run_append_keep (P := Tryz.prog) w base 43 ty 34 i1 (.int .u64 0) 1 8 Tryz.underlying43 hi1 hy0 hy1 hy2 rfl (by decide) v1 xs.length (xs.map (Value.int .u64)) h1 ad ys.length cap (ys.map (Value.int .u64)) (by simp) (cells_of_reads hr) (ints_oneCell _ _) (by unfold maxLen; omega) (by omega) hb
    exact ⟨v', w', e1, by simpa using e2, e3⟩

theorem step_append_two {w : World} {ops : Array Oper} {o : Oper} {a : Act} {K : Act → World → Prop} {Q : Exit → Act → World → Prop} {E : Prop} (hgd : o.guard = none) (s x : Operand)
    (ho : o.op = .call { callee := .builtin .append, args := #[s, x], argTypes := #[43, 43] }) {base B2 : Nat} {v1 v2 : Value} {xs ys : List Int} (hs : a.eval s = v1) (hx : a.eval x = v2)
    (h1 : w.ownsRow base 34 1 v1 xs.length (xs.map (Value.int .u64))) (h2 : w.ownsRow B2 34 1 v2 ys.length (ys.map (Value.int .u64))) (hb : base ≤ w.heap.size) (hl : xs.length + ys.length ≤ 100000)
    (h : ∀ v' w', w'.ownsRow base 34 1 v' (xs ++ ys).length ((xs ++ ys).map (Value.int .u64)) → w.grownBy w' v1.ownBlock → K (a.put o.dst v') w') :
    if Region.wanted o (yielded ops a.tmps) = true then Oper.wp Tryz.prog o a w K Q else E := by
  have hw : Region.wanted o (yielded ops a.tmps) = true := by simp [Region.wanted, hgd]
  rw [if_pos hw]
  obtain ⟨v', w', hrun, ho1, hg1⟩ := run_append_two o.type h1 h2 hb hl
  unfold Oper.wp
  simp [execOp, ho, resolve, invoke, builtin, hs, hx, hrun, Result.andThen]
  exact h v' w' ho1 hg1

set_option maxRecDepth 100000 in
theorem gRow_any (g : Nat) (vs : List Int) (w : World) (hr : Reads .u64 w (some ⟨g, 0, none⟩) vs) (hl : vs.length ≤ 100000) :
    Calls Tryz.prog 90 #[.slice (some ⟨g, 0, none⟩) vs.length vs.length] w (RetOwn .u64 34 vs w) := by
  obtain ⟨i1, hi1, hy0, hy1, hy2⟩ := info_parts info_u64
  have hcs := Lib.hid (cells_of_reads hr)
  clear hr
  go_enter Tryz.func90, Tryz.ntmps90
  go_wp2_with (at_builtin; refine wpList_append_own _ rfl _ _ 43 rfl w.heap.size 34 i1 (.int .u64 0) 1 8 Tryz.underlying43 hi1 hy0 hy1 hy2 rfl (by decide) (.slice none 0 0) 0 [] (by rfl) (World.ownsRow_nil _ _ _ _) ⟨g, 0, none⟩ vs.length vs.length (vs.map (Value.int .u64)) (by rfl) (by simp) hcs.out (ints_oneCell _ _) (by unfold maxLen; omega) (by omega) (by simp) ?_)
  intro v' w' ho hg _
  have HB : Hid (Below w.heap.size w w') := Lib.hid ((Below.refl _ _).grown hg (Nat.le_refl _) (fun k e => by simp [Value.ownBlock] at e))
  have HO := Lib.hid ho
  clear ho hg
  go_wp2
  go_ret
  exact ⟨v', rfl, HB.out, by simpa using HO.out⟩

set_option maxRecDepth 100000 in
theorem gAll_any {w : World} {b g : Nat} {vs : List Int} (h : GlobAt w b g vs) :
    Calls Tryz.prog 33 #[.pointer (some ⟨b, 0, none⟩)] w (RetOwn .u64 34 vs w) := by
  have hR := gRow_any g vs w h.reads (by have := h.len; omega)
  have c0 := heap_cell h.blk 0
  simp at c0
  clear h
  go_enter Tryz.func33, Tryz.ntmps33
  go_wp2_with (go_at_call 90; refine hR.mono ?_; rintro e w' ⟨v, rfl, hb, ho⟩)
  go_ret
  exact ⟨v, rfl, hb, ho⟩

theorem below_drewN (w : World) (n : Nat) : Below w.heap.size w (w.drewN n) := ⟨rfl, rfl, rfl, Nat.le_refl _, fun _ _ => rfl⟩
theorem heap_cell_below {w w' : World} {b i : Nat} {v : Value} (h : Below w.heap.size w w') (_hl : b < w.heap.size) (hc : w.cell? ⟨b, i, none⟩ = some v) : w'.cell? ⟨b, i, none⟩ = some v := (Moved.of_below h (fun _ => False)).cell hc id
theorem two_keep {w1 w2 w3 : World} {B b i n : Nat} {t : TypeId} {v1 v : Value} {xs : List Value} (ho : w1.ownsRow B t 1 v1 n xs) (hg : w2.grownBy w3 v1.ownBlock) (hl : b < B) (hc : w2.cell? ⟨b, i, none⟩ = some v) : w3.cell? ⟨b, i, none⟩ = some v := by
  have hm : Moved (fun k => B ≤ k) w2 w3 := Moved.of_grown hg (fun k e => (ho.lt k e).1)
  exact hm.cell hc (fun e => by simp at e; omega)
theorem two_below {w1 w2 w3 : World} {B n : Nat} {t : TypeId} {v1 : Value} {xs : List Value} (ho : w1.ownsRow B t 1 v1 n xs) (hg : w2.grownBy w3 v1.ownBlock) (hs : B ≤ w2.heap.size) : Below B w2 w3 :=
  (Below.refl _ _).grown hg hs (fun k e => (ho.lt k e).1)
def rootsL (H : HM) : List Int := H.gl ++ H.fr.flatten
set_option maxRecDepth 100000 in
set_option maxHeartbeats 2000000 in
theorem hRoots_any {B : HB} {H : HM} {O0 O1 : Obj} {w : World} {S : Nat → Prop} (h : HeapSt B H O0 O1 w S) (hl : H.fr.flatten.length ≤ 10000) :
    Calls Tryz.prog 17 #[.pointer (some ⟨B.hb, 0, none⟩)] w (RetOwn .u64 34 (rootsL H) w) := by
  have hG : ∀ nq, Calls Tryz.prog 33 #[.pointer (some ⟨B.gb, 0, none⟩)] (w.drewN nq) (RetOwn .u64 34 H.gl w) := fun nq =>
    (gAll_any (h.globs.moved (Moved.drewN (fun _ => False) w nq) id id)).mono (fun e w' ⟨v, h1, h2, h3⟩ => ⟨v, h1, (below_drewN w nq).trans h2, h3⟩)
  have hgl := h.globs.len
  obtain ⟨Sf, hst, _⟩ := h.frTurn
  have hF : ∀ w1, Below w.heap.size w w1 → Calls Tryz.prog 34 #[.pointer (some ⟨B.fb, 0, none⟩)] w1 (RetOwn .u64 34 H.fr.flatten w1) := fun w1 hb =>
    sAll_any (hst.moved (Moved.of_below hb (fun _ => False)) (fun _ _ e => e))
  have c8 := heap_cell h.blk 8
  have c9 := heap_cell h.blk 9
  simp at c8 c9
  have hlt := heap_lt h.blk
  clear h hst
  unfold rootsL
  go_enter Tryz.func17, Tryz.ntmps17
  go_wp2
  go_region_held_law (fun w' => w'.cell? ⟨B.hb, 8, none⟩ = some (.pointer (some ⟨B.gb, 0, none⟩)) ∧ w'.cell? ⟨B.hb, 9, none⟩ = some (.pointer (some ⟨B.fb, 0, none⟩)))
    (first | (with_reducible exact ⟨k8, k9⟩) | (with_reducible exact ⟨e8, e9⟩) | (with_reducible exact ⟨d8, d9⟩) | exact ⟨c8, c9⟩)
    (first
      | (go_at_call 33; refine (hG _).mono ?_; rintro e w1 ⟨v1, rfl, hb1, ho1⟩; have d8 := heap_cell_below hb1 hlt c8; have d9 := heap_cell_below hb1 hlt c9)
      | (go_at_call 34; refine (hF _ hb1).mono ?_; rintro e w2 ⟨v2, rfl, hb2, ho2⟩; have e8 := heap_cell_below hb2 (Nat.lt_of_lt_of_le hlt hb1.size) d8; have e9 := heap_cell_below hb2 (Nat.lt_of_lt_of_le hlt hb1.size) d9)
      | (refine step_append_two rfl _ _ rfl (by rfl) (by rfl) ((Moved.of_below hb2 (fun _ => False)).owns ho1 (fun _ _ e => e)) ho2 (Nat.le_trans hb1.size hb2.size) (by omega) ?_; intro v3 w3 ho3 hg3; have k8 : w3.cell? ⟨B.hb, 8, none⟩ = some (.pointer (some ⟨B.gb, 0, none⟩)) := two_keep ho1 hg3 hlt e8; have k9 : w3.cell? ⟨B.hb, 9, none⟩ = some (.pointer (some ⟨B.fb, 0, none⟩)) := two_keep ho1 hg3 hlt e9))
  have HF := Lib.hid (And.intro ho3 ((hb1.trans (hb2.mono hb1.size)).trans (two_below ho1 hg3 (Nat.le_trans hb1.size hb2.size))))
  clear ho3 hg3 hb1 hb2 ho1 ho2
  go_wp2
  go_ret
  exact ⟨v3, by simp [Array.getD], HF.out.2, HF.out.1⟩
end Go.Proofs.YtcenagpkfimkbaaGreatDoor
