/-
  Contracts of functions of the program, laid together.
-/
import Derived.Test.YtcenagpkfimkbaaGreatDoorTopSlotsM2
import Derived.RangeFuncNested
import Derived.RangeFuncBound
import Derived.RangeFuncCalls
import Derived.RangeFuncLeaves
import Derived.Shelf.Abstract
import Derived.Shelf.RegionOpen
import Derived.WalkKit
import Derived.OwnWalkIn
import Derived.TacticsInMore
import Derived.LoopNIn
import Derived.LoopIn
namespace Go.Proofs.YtcenagpkfimkbaaGreatDoor
open Go Go.RowKit Go.Shelf

attribute [local go_sem] Oper.semAt_some

def KeepB (B : Nat) (A C : World) : Prop := C.heap[B]? = A.heap[B]?

theorem places_in (F : Fence) (n : Nat) (hf : F.fn 217) (hro : F.round = none) (f k : Int) (w : World) :
    CallsIn F n Tryz.prog 217 #[.agg #[.int .i64 f, .int .i64 k]] w fun e w' => e = .returned (.func (.func 228) #[] #[.pointer (some ⟨w.heap.size, 0, none⟩)]) ∧ w' = w.alloc (.cells #[.int .i64 f, .int .i64 k] 160) := by
  refine callsIn_of_wp Tryz.func217 rfl hf ?_ hro
  simp only [Tryz.ntmps217, List.size_toArray, List.length_cons, List.length_nil, Nat.reduceAdd, Nat.reduceSub, Array.replicate_succ, Array.replicate_zero, List.push_toArray, List.append_toArray, List.nil_append, List.cons_append]
  gi_wp2
  go_ret
  exact ⟨rfl, rfl⟩

set_option maxRecDepth 100000 in
set_option maxHeartbeats 2000000 in
theorem places1_in (F : Fence) (n : Nat) (h7 : F.fn 228) (hro : F.round = none) (hn : 1 ≤ n) (l B f k : Nat) (hfk : f + k ≤ 16384) (J Jx : List (Fin k) → World → Prop)
    (hY : ∀ pre x W, J pre W → pre.length < k → YieldAt F (n - 1) Tryz.prog l #[.int .i64 ((f : Int) + (x.1 : Int))] W fun e W' =>
      (e = .returned (.bool true) ∧ J (pre ++ [x]) W' ∧ KeepB B W W') ∨ (e = .returned (.bool false) ∧ Jx (pre ++ [x]) W'))
    (W : World) (hB : W.heap[B]? = some (.cells #[.int .i64 f, .int .i64 k] 160 (0, 0))) (h0 : J [] W) :
    CallsIn F n Tryz.prog 228 #[.func (.yield l) #[] #[], .pointer (some ⟨B, 0, none⟩)] W fun e W' => (∃ v, e = .returned v) ∧
      ((∃ ys : List (Fin k), ys.map (·.1) = List.range k ∧ J ys W') ∨ (∃ pre, True ∧ Jx pre W')) := by
  have c0 := heap_cell hB 0
  have c1 := heap_cell hB 1
  simp at c0 c1
  refine callsIn_of_wp Tryz.func228 rfl h7 ?_ hro
  simp only [Tryz.ntmps228, List.size_toArray, List.length_cons, List.length_nil, Nat.reduceAdd, Nat.reduceSub, Array.replicate_succ, Array.replicate_zero, List.push_toArray, List.append_toArray, List.nil_append, List.cons_append]
  gi_wp2
  gi_loopw [6] (fun i wr => ∃ (q : Nat) (ys : List (Fin k)), q ≤ k ∧ i = .int .i64 q ∧ ys.map (·.1) = List.range q ∧ J ys wr ∧ wr.heap[B]? = some (.cells #[.int .i64 f, .int .i64 k] 160 (0, 0)))
    (fun i _ => k - (intOf i).toNat)
  case atStart => exact ⟨0, [], Nat.zero_le _, rfl, rfl, h0, hB⟩
  case round =>
    obtain ⟨q, ys, hq, rfl, hys, hJs, hBr⟩ := hrel
    have b0 := heap_cell hBr 0
    simp at b0
    by_cases hlt : q < k
    · have hlen : ys.length = q := by have := congrArg List.length hys; simpa using this
      obtain ⟨fn, tmps, assign, body, hy, hR⟩ := hY ys ⟨q, hlt⟩ wr hJs (by omega)
      have HYS := Lib.hid hys
      clear hys c0 c1 hlen
      gi_wp2
      refine hR.mono ?_
      rintro e W3 (⟨rfl, hJ3, hk3⟩ | ⟨rfl, hJx3⟩)
      · gi_wp2
        go_roundw
        case rel => exact ⟨q + 1, ys ++ [⟨q, hlt⟩], by omega, by simp, by simp [HYS.out, List.range_succ], hJ3, hk3.trans hBr⟩
        case measure => simp [intOf]; omega
      · gi_wp2
        refine bodyPost_ret (results_none rfl _ _ _) rfl ?_
        exact ⟨⟨_, rfl⟩, .inr ⟨_, trivial, hJx3⟩⟩
    · obtain rfl : q = k := by omega
      gi_wp2
      go_end0
      exact ⟨⟨_, rfl⟩, .inl ⟨_, hys, hJs⟩⟩

theorem places_stops (F : Fence) (n : Nat) (h7 : F.fn 228) (hro : F.round = none) (hn : 1 ≤ n) (B f k : Nat) (hfk : f + k ≤ 16384) (w : World) (hB : w.heap[B]? = some (.cells #[.int .i64 f, .int .i64 k] 160 (0, 0))) :
    SeqStopsK F n Tryz.prog 228 #[.pointer (some ⟨B, 0, none⟩)] (fun x : Fin k => #[Value.int .i64 ((f : Int) + (x.1 : Int))]) (KeepB B) (fun ys => ys.map (·.1) = List.range k) (fun _ => True) k w := fun l J Jx W hW _ _ hY h0 =>
  places1_in F n h7 hro hn l B f k hfk J Jx hY W (heap_below hW hB (heap_lt hB)) h0

def fillF (xs : List Int) (f : Nat) (v : Int) {k : Nat} (pre : List (Fin k)) : List Int := pre.foldl (fun l i => l.set (f + i.1) v) xs
theorem fillF_snoc (xs : List Int) (f : Nat) (v : Int) {k : Nat} (pre : List (Fin k)) (x : Fin k) : fillF xs f v (pre ++ [x]) = (fillF xs f v pre).set (f + x.1) v := by simp [fillF]
theorem fillF_length (xs : List Int) (f : Nat) (v : Int) {k : Nat} (pre : List (Fin k)) : (fillF xs f v pre).length = xs.length := by
  unfold fillF
  induction pre generalizing xs with
  | nil => rfl
  | cons x pre ih => simp [ih]
theorem fillF_get (xs : List Int) (f : Nat) (v : Int) {k : Nat} (pre : List (Fin k)) (j : Nat) : (fillF xs f v pre)[j]? = if j < xs.length ∧ (∃ x ∈ pre, f + x.1 = j) then some v else xs[j]? := by
  unfold fillF
  induction pre generalizing xs with
  | nil => simp
  | cons x pre ih =>
    simp only [List.foldl_cons, ih, List.length_set, List.mem_cons, exists_eq_or_imp]
    by_cases h : j < xs.length
    · by_cases h2 : ∃ y ∈ pre, f + y.1 = j
      · simp [h, h2]
      · by_cases h3 : f + x.1 = j
        · subst h3; simp [h]
        · rw [if_neg (by simp [h2]), if_neg (by simp [h2, h3]), List.getElem?_set_ne h3]
    · rw [if_neg (by simp [h]), if_neg (by simp [h])]
      rw [List.getElem?_eq_none (by simp; omega), List.getElem?_eq_none (by omega)]
theorem fillF_all (xs : List Int) (f : Nat) (v : Int) {k : Nat} (ys : List (Fin k)) (h : ys.map (·.1) = List.range k) (hk : f + k ≤ xs.length) :
    fillF xs f v ys = xs.take f ++ (List.replicate k v ++ xs.drop (f + k)) := by
  apply List.ext_getElem?
  intro j
  rw [fillF_get]
  have hex : (∃ x ∈ ys, f + x.1 = j) ↔ (f ≤ j ∧ j < f + k) := by
    constructor
    · rintro ⟨x, _, rfl⟩; have := x.2; omega
    · rintro ⟨h1, h2⟩
      have : j - f ∈ ys.map (·.1) := by rw [h]; simp; omega
      obtain ⟨x, hx, e⟩ := List.mem_map.1 this
      exact ⟨x, hx, by omega⟩
  simp only [hex]
  by_cases h1 : j < f
  · rw [if_neg (by omega), List.getElem?_append_left (by simp; omega), List.getElem?_take, if_pos h1]
  · rw [List.getElem?_append_right (by simp; omega)]
    have e1 : (xs.take f).length = f := by simp; omega
    rw [e1]
    by_cases h2 : j < f + k
    · rw [if_pos (by omega), List.getElem?_append_left (by rw [List.length_replicate]; omega), List.getElem?_replicate, if_pos (by omega)]
    · rw [if_neg (by omega), List.getElem?_append_right (by simp; omega)]
      rw [List.getElem?_drop, List.length_replicate, show f + k + (j - f - k) = j by omega]

def fillB (n : Nat) (f k : Int) : Bool := hasB n f k
def fillE (n : Nat) (f k : Int) : Int := if hasB n f k = true then 0 else 8
def fillL (xs : List Int) (f k v : Int) : List Int := if hasB xs.length f k = true then xs.take f.toNat ++ (List.replicate k.toNat v ++ xs.drop (f.toNat + k.toNat)) else xs
theorem fillL_length (xs : List Int) (f k v : Int) : (fillL xs f k v).length = xs.length := by
  unfold fillL
  split
  · rename_i h
    simp [hasB] at h
    simp
    omega
  · rfl

def FillI (w0 : World) (b g B3 B5 : Nat) (xs : List Int) (f : Nat) (v : Int) {k : Nat} (pre : List (Fin k)) (W : World) : Prop :=
  MemAt W b g (fillF xs f v pre) ∧ W.heap[B3]? = some (.cells #[.pointer (some ⟨b, 0, none⟩)] 163 (0, 0)) ∧ W.heap[B5]? = some (.cells #[.int .u64 v] 34 (0, 0)) ∧ w0.grownBy W (some g)
theorem FillI.own (w0 : World) (b g B3 B5 : Nat) (xs : List Int) (f : Nat) (v : Int) {k : Nat} (B : Nat) (hB : w0.heap.size ≤ B) : OwnFrom B (FillI w0 b g B3 B5 xs f v (k := k)) := by
  rintro pre W W' row ⟨hM, h3, h5, hg⟩ hgr hr
  have key : ∀ {q : Nat} {arr : Array Value} {t : TypeId} {fr : Nat × Nat}, W.heap[q]? = some (.cells arr t fr) → W'.heap[q]? = some (.cells arr t fr) := by
    intro q arr t fr h
    refine (hgr.block q (heap_lt h) ?_).trans h
    intro e
    obtain ⟨_, o, ho, hc⟩ := hr q e.symm
    rw [h] at ho
    cases ho
    cases hc
  refine ⟨⟨key hM.1, key hM.2.1, hM.2.2⟩, key h3, key h5, hgr.os.trans hg.os, hgr.tape.trans hg.tape, hgr.output.trans hg.output, Nat.le_trans hg.size hgr.size, ?_⟩
  intro i hi hne
  refine (hgr.block i (Nat.lt_of_lt_of_le hi hg.size) ?_).trans (hg.block i hi hne)
  intro e
  have := (hr i e.symm).1
  omega

set_option maxRecDepth 100000 in
set_option maxHeartbeats 4000000 in
theorem wFill_good (b g : Nat) (xs : List Int) (f k : Nat) (v : Int) (w : World) (h : MemAt w b g xs) (hk : f + k ≤ xs.length) :
    CallsIn Fence.wide 3 Tryz.prog 193 #[.pointer (some ⟨b, 0, none⟩), .agg #[.int .i64 f, .int .i64 k], .int .u64 v] w fun e w' => e = .returned (.int .i64 0) ∧ w.grownBy w' (some g) ∧ MemAt w' b g (xs.take f ++ (List.replicate k v ++ xs.drop (f + k))) := by
  have hl := h.2.2
  have hlt := heap_lt h.1
  have hB : hasB xs.length f k = true := by simp [hasB]; omega
  have hW0 : Below w.heap.size w (((w.alloc (.cells #[.pointer (some ⟨b, 0, none⟩)] 163)).alloc (.cells #[.int .i64 f, .int .i64 k] 160)).alloc (.cells #[.int .u64 v] 34)) :=
    (((Below.refl _ _).alloc (Nat.le_refl _) _).alloc (by simp) _).alloc (by simp; omega) _
  have hM0 := h.later hW0
  refine callsIn_of_wp_marks Tryz.func193 rfl trivial ?_ rfl
  simp only [Tryz.ntmps193, List.size_toArray, List.length_cons, List.length_nil, Nat.reduceAdd, Nat.reduceSub, Array.replicate_succ, Array.replicate_zero, List.push_toArray, List.append_toArray, List.nil_append, List.cons_append]
  gi_wp2_with (first | (refine ⟨trivial, ?_⟩; gi_at_call 216; refine (callsIn_wide.2 (whas_any _ _ _ _ _ _ hM0)).mono ?_; rw [hB]; rintro e w1 ⟨rfl, hb1⟩; obtain ⟨hc1, hf1, hs1⟩ := bcell hb1; simp only [World.size_alloc] at hs1; have hz1 := Nat.lt_of_succ_le hs1; have hz2 := Nat.lt_of_succ_lt hz1; have hz3 := Nat.lt_of_succ_lt hz2) | (refine ⟨trivial, ?_⟩; gi_at_call 217; refine (places_in Fence.wide _ trivial rfl _ _ _).mono ?_; rintro e w2 ⟨rfl, rfl⟩))
  have hM1 : MemAt w1 b g xs := hM0.later hb1
  have x3 : w1.heap[w.heap.size]? = some (.cells #[.pointer (some ⟨b, 0, none⟩)] 163 (0, 0)) := heap_below hb1 (heap_alloc_lt (heap_alloc_lt (heap_alloc_eq _ _) _) _) (by simp; omega)
  have x5 : w1.heap[w.heap.size + 1 + 1]? = some (.cells #[.int .u64 v] 34 (0, 0)) := heap_below hb1 (by simpa using heap_alloc_eq ((w.alloc (.cells #[.pointer (some ⟨b, 0, none⟩)] 163)).alloc (.cells #[.int .i64 f, .int .i64 k] 160)) (.cells #[.int .u64 v] 34)) (by simp)
  have hW1 : Below w.heap.size w w1 := hW0.trans (hb1.mono (by simp; omega))
  clear hc1 hf1 hb1 hM0 hW0
  have hbox := heap_alloc_eq w1 (.cells #[.int .i64 f, .int .i64 k] 160)
  have hbm := hM1.ne
  refine wpIn_rangeFunc_ownF (F := Fence.wide) rfl (by omega) (gf := 228) (lb := #[.pointer (some ⟨w1.heap.size, 0, none⟩)]) rfl trivial (enters_of Tryz.func228 (by kernel_rfl) rfl)
    (places_stops Fence.wide 2 trivial rfl (by omega) w1.heap.size f k (by omega) _ hbox) (fun h1 h2 => h2.trans h1)
    (fun W l o o' hl ho hc _ => World.putObj_heap_other (by simp at hl; omega)) (Below.refl _ _) (fun _ => rfl)
    (fun pre W => FillI w b g w.heap.size (w.heap.size + 1 + 1) xs f v pre W)
    (fun _ _ _ => False)
    (FillI.own _ _ _ _ _ _ _ _ _ (by simp; omega))
    (fun _ _ _ _ _ hs _ _ => hs)
    ⟨hM1.later ((Below.refl _ _).alloc (Nat.le_refl _) _), heap_alloc_lt x3 _, heap_alloc_lt x5 _, grown_of_below (hW1.alloc (by omega) _) _⟩
    (fun x => { tmps := #[.pointer (some ⟨b, 0, none⟩), .agg #[.int .i64 f, .int .i64 k], .int .u64 v, .pointer (some ⟨w.heap.size, 0, none⟩), .pointer (some ⟨w.heap.size + 1, 0, none⟩), .pointer (some ⟨w.heap.size + 1 + 1, 0, none⟩), .int .i64 0, .int .i64 ((f : Int) + (x.1 : Int)), .pointer (some ⟨b, 0, none⟩), .agg #[.int .i64 f, .int .i64 k], .bool true, .bool false, .agg #[.int .i64 f, .int .i64 k], .func (.func 228) #[] #[.pointer (some ⟨w1.heap.size, 0, none⟩)], .int .i64 ((f : Int) + (x.1 : Int)), undef, undef, undef, undef, undef, undef, undef], defers := [] }) ?assign ?body ?done ?stop
  case assign =>
    intro l x W K hK
    gi_wp2
    exact hK
  case body =>
    rintro l pre x W ⟨hMr, h3r, h5r, hgr⟩ _
    have hx := x.2
    have y3 := heap_cell h3r 0
    have y5 := heap_cell h5r 0
    have ym := hMr.cell
    have YL := Lib.hid (fillF_length xs f v pre)
    have yw := hMr.word (f + x.1) (by rw [YL.out]; omega)
    have yf := hMr.free (f + x.1)
    simp at y3 y5

    have r1 : ((f : Int) + (x.1 : Int)).toNat = f + x.1 := by omega
    have r2 : (0 : Int) ≤ (f : Int) + (x.1 : Int) := by omega
    have r3 : (f : Int) + (x.1 : Int) < ((fillF xs f v pre).length : Int) := by rw [YL.out]; omega
    have hmix : Tryz.prog.follows .mixedOrders = true := by kernel_rfl
    have hgb : w.heap.size ≠ g := by have := heap_lt h.2.1; omega
    have hgb2 : w.heap.size + 1 + 1 ≠ g := by have := heap_lt h.2.1; omega
    have hBg : w1.heap.size ≠ g := by have := heap_lt h.2.1; omega
    have fin : KeepsOthers W ((W.setCell ⟨g, f + x.1, none⟩ (.int .u64 v)).drew) ∧ KeepB w1.heap.size W ((W.setCell ⟨g, f + x.1, none⟩ (.int .u64 v)).drew) ∧ FillI w b g w.heap.size (w.heap.size + 1 + 1) xs f v (pre ++ [x]) ((W.setCell ⟨g, f + x.1, none⟩ (.int .u64 v)).drew) := by
      refine ⟨(KeepsOthers.setCell _ _ _).trans (KeepsOthers.drew _), heap_set_ne hBg _ _, ?_⟩
      refine ⟨?_, (heap_set_ne hgb _ _).trans h3r, (heap_set_ne hgb2 _ _).trans h5r, grown_trans (grown_trans hgr (grown_set _ _ _ _)) (grown_drew _ _)⟩
      rw [fillF_snoc]
      exact hMr.set _ _
    have FIN := Lib.hid fin
    clear fin
    gi_wp2
    gi_region_o
    all_goals (gi_wp2; exact FIN.out)
  case done =>
    rintro D ys W hD hys ⟨hMr, h3r, h5r, hgr⟩ hK
    gi_wp2
    refine ⟨by simp, .inl ⟨_, _, rfl, run_takeDeferred hK, ?_⟩⟩
    have hDs : w.heap.size ≤ D := by simp at hD; omega
    have n1 : b ≠ D := by intro e; have := hMr.1; rw [e, hK] at this; cases this
    have n2 : g ≠ D := by intro e; have := hMr.2.1; rw [e, hK] at this; cases this
    refine ⟨_, results_tmp rfl _ _ _, rfl, grown_new hgr (grownBy_putObj' W D (.deferred none)) hDs, ?_⟩
    rw [fillF_all xs f v ys hys hk] at hMr
    exact ⟨(World.putObj_heap_other n1).trans hMr.1, (World.putObj_heap_other n2).trans hMr.2.1, hMr.2.2⟩
  case stop =>
    rintro D c pre W _ _ h _
    exact h.elim

theorem wFill_any (b g : Nat) (xs : List Int) (f k v : Int) (w : World) (h : MemAt w b g xs) :
    Calls Tryz.prog 193 #[.pointer (some ⟨b, 0, none⟩), .agg #[.int .i64 f, .int .i64 k], .int .u64 v] w fun e w' => e = .returned (.int .i64 (fillE xs.length f k)) ∧ w.grownBy w' (some g) ∧ MemAt w' b g (fillL xs f k v) := by
  cases hB : hasB xs.length f k
  · have e1 : Hid (fillL xs f k v = xs) := by show _ = _; simp [fillL, hB]
    have e2 : Hid (fillE xs.length f k = 8) := by show _ = _; simp [fillE, hB]
    have hW0 : Below w.heap.size w (((w.alloc (.cells #[.pointer (some ⟨b, 0, none⟩)] 163)).alloc (.cells #[.int .i64 f, .int .i64 k] 160)).alloc (.cells #[.int .u64 v] 34)) :=
      (((Below.refl _ _).alloc (Nat.le_refl _) _).alloc (by simp) _).alloc (by simp; omega) _
    have hM0 := h.later hW0
    have hlt := heap_lt h.1
    go_enter Tryz.func193, Tryz.ntmps193
    go_wp2_with (go_at_call 216; refine (whas_any _ _ _ _ _ _ hM0).mono ?_; rw [hB]; rintro e w1 ⟨rfl, hb1⟩)
    go_ret
    rw [e1.out, e2.out]
    have hB1 := hW0.trans (hb1.mono (by simp; omega))
    exact ⟨rfl, grown_of_below hB1 _, h.later hB1⟩
  · have q := hB
    simp [hasB] at q
    obtain ⟨q1, q2, q3, q4⟩ := q
    obtain ⟨f, rfl⟩ := Int.eq_ofNat_of_zero_le q1
    obtain ⟨k, rfl⟩ := Int.eq_ofNat_of_zero_le q2
    refine (callsIn_wide.1 (wFill_good b g xs f k v w h (by omega))).mono ?_
    rintro e w' ⟨rfl, h1, h2⟩
    refine ⟨by simp [fillE, hB], h1, ?_⟩
    simpa [fillL, hB] using h2
end Go.Proofs.YtcenagpkfimkbaaGreatDoor
