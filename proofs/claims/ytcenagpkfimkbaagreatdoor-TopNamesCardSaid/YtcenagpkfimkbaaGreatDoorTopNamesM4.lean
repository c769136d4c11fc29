/-
  Contracts of functions of the program, laid together.
-/
import Derived.Test.YtcenagpkfimkbaaGreatDoorTopNamesM3
import Derived.Deep.LoopGhost
import Derived.WalkMore
import Derived.RangeFuncNested
import Derived.RangeFuncBound
import Derived.RangeFuncCalls
import Derived.RangeFuncLeaves
import Derived.Shelf.Abstract
import Derived.Shelf.RegionOpen
import Derived.WalkKit
import Derived.OwnWalkIn
import Derived.TacticsInMore
import Derived.LoopNIn
import Derived.LoopIn
import Derived.Deep.AppendLies
/-
  bits.Row: Find.
-/
namespace Go.Proofs.YtcenagpkfimkbaaGreatDoor
open Go Go.RowKit

/-- Are n places free from one on? The first from which on they are. -/
def freeB (xs : List Bool) (n a : Nat) : Bool := decide (a + n ≤ xs.length) && decide (∀ i, i < n → xs.getD (a + i) false = false)
def findM (xs : List Bool) (n : Int) : Option Nat := if n < 1 then none else (List.range (xs.length + 1)).find? (freeB xs n.toNat)
theorem findM_some {xs : List Bool} {n q : Nat} (h0 : 1 ≤ n) (hq : freeB xs n q = true) (h : ∀ a, a < q → freeB xs n a = false) : findM xs (n : Int) = some q := by
  unfold findM
  rw [if_neg (by omega), Int.toNat_natCast, List.find?_range_eq_some]
  have : q + n ≤ xs.length := by simp [freeB] at hq; exact hq.1
  exact ⟨hq, by simp; omega, fun a ha => by simp [h a ha]⟩
theorem findM_none {xs : List Bool} {n : Nat} (h : ∀ a, freeB xs n a = false) : findM xs (n : Int) = none := by
  unfold findM
  split
  · rfl
  · rw [Int.toNat_natCast, List.find?_range_eq_none]
    intro a _
    simp [h a]
theorem freeB_far {xs : List Bool} {n a : Nat} (h : xs.length < a + n) : freeB xs n a = false := by simp [freeB]; omega
theorem freeB_hit {xs : List Bool} {n a p : Nat} (h : xs.getD p false = true) (h1 : a ≤ p) (h2 : p < a + n) : freeB xs n a = false := by
  simp only [freeB, Bool.and_eq_false_iff, decide_eq_false_iff_not]
  right
  intro hall
  have := hall (p - a) (by omega)
  rw [show a + (p - a) = p by omega, h] at this
  cases this

set_option maxRecDepth 100000 in
set_option maxHeartbeats 1000000 in
theorem bFind_any (b g : Nat) (xs : List Bool) (n : Int) (w : World) (h : RowAt w b g xs) (hn1 : n ≤ 9223372036854775807) :
    Calls Tryz.prog 215 #[.pointer (some ⟨b, 0, none⟩), .int .i64 n] w fun e w' => e = .returned (.tuple #[.int .i64 ((findM xs n).getD 0 : Nat), .bool (findM xs n).isSome]) ∧ w = w' := by
  have H := Lib.hid h
  have hm : xs.length ≤ 16384 := by obtain ⟨_, _, _, _, h⟩ := h; exact h
  obtain ⟨m, hM⟩ : ∃ x, xs.length = x := ⟨_, rfl⟩
  have c1 : w.cell? ⟨b, 1, none⟩ = some (.int .i64 m) := by
    obtain ⟨_, _, h1, _, _⟩ := h
    have := heap_cell h1 1
    simpa [hM] using this
  rw [hM] at hm
  have HM := Lib.hid hM
  clear h hM
  by_cases h1 : n < 1
  · have HE : Hid (findM xs n = none) := Lib.hid (by rw [findM, if_pos h1])
    clear c1
    go_enter Tryz.func215, Tryz.ntmps215
    go_wp2
    go_step3
    go_wp2
    try rw [Exit.noGoto_ret]
    go_ret2
    exact ⟨by rw [HE.out]; rfl, rfl⟩
  · obtain ⟨n, rfl⟩ := Int.eq_ofNat_of_zero_le (show 0 ≤ n by omega)
    have h2 : 1 ≤ n := by omega
    go_enter Tryz.func215, Tryz.ntmps215
    go_wp2
    go_step3
    go_wp2
    go_step3
    go_wp2
    go_loopg [6] m (fun gk a wr => ∃ q : Nat, q ≤ m ∧ gk = m - q ∧ a = .int .i64 q ∧ wr = w ∧ Hid (∀ a, a < q → freeB xs n a = false))
    case atStart => exact ⟨0, by omega, by omega, rfl, rfl, Lib.hid (fun i h => by omega)⟩
    case round =>
      obtain ⟨q, hq, rfl, rfl, rfl, HV⟩ := hrel
      have i5 : IntKind.i64.wrap ((m : Int) - (q : Int)) = (m : Int) - q := by rw [IntKind.wrap_i64]; omega
      by_cases hlt : n ≤ m - q
      · have i1 : (n : Int) ≤ (m : Int) - q := by omega
        go_wp2
        go_loopg [6, 7] n (fun gi p a wx => ∃ c : Nat, c ≤ n ∧ c = gi ∧ p = .int .i64 q ∧ a = .int .i64 ((c : Int) - 1) ∧ wx = wr ∧ Hid (∀ i, c ≤ i → i < n → xs.getD (q + i) false = false))
        case atStart => exact ⟨n, by omega, rfl, rfl, rfl, rfl, Lib.hid (fun i h1 h2 => by omega)⟩
        case round =>
          obtain ⟨c, hc, rfl, rfl, rfl, rfl, HI⟩ := hrel
          rcases c with _ | c
          · have HE : Hid (findM xs (n : Int) = some q) := Lib.hid (findM_some h2 (by
              simp only [freeB, Bool.and_eq_true, decide_eq_true_eq]
              exact ⟨by rw [HM.out]; omega, fun i hi => HI.out i (by omega) hi⟩) HV.out)
            go_wp2
            try rw [Exit.noGoto_ret]
            go_ret2
            exact ⟨by rw [HE.out]; rfl, rfl⟩
          · have e1 : (((c + 1 : Nat) : Int) - 1) = (c : Int) := by omega
            rw [e1]
            have i6 : (q : Int) + (c : Int) ≤ 20000 := by omega
            have hh := bHas_any b g xs ((q + c : Nat) : Int) _ H.out
            rw [hasM_nat, show ((q + c : Nat) : Int) = (q : Int) + (c : Int) by omega] at hh
            obtain ⟨x, hx⟩ : ∃ x, xs.getD (q + c) false = x := ⟨_, rfl⟩
            rw [hx] at hh
            have HX := Lib.hid hx
            clear hx e1
            go_wp2_with fail
            refine hh.mono ?_
            rintro e w2 ⟨rfl, rfl⟩
            clear hh
            cases x
            · have HI2 : Hid (∀ i, c ≤ i → i < n → xs.getD (q + i) false = false) := Lib.hid fun i h1 h2 => by
                by_cases e : i = c
                · subst e; exact HX.out
                · exact HI.out i (by omega) h2
              go_wp2
              go_roundg c
              case rel => exact ⟨c, by omega, rfl, by simp, by simp, rfl, HI2⟩
              case measure => omega
            · have HV2 : Hid (∀ a, a < q + (c + 1) → freeB xs n a = false) := Lib.hid fun a ha => by
                by_cases e : a < q
                · exact HV.out a e
                · exact freeB_hit HX.out (by omega) (by omega)
              go_wp2
              go_roundg (m - (q + (c + 1)))
              case rel => exact ⟨q + (c + 1), by omega, rfl, by simp, rfl, HV2⟩
              case measure => omega
      · have i1 : ¬ (n : Int) ≤ (m : Int) - q := by omega
        have HE : Hid (findM xs n = none) := Lib.hid (findM_none fun a => by
          by_cases e : a < q
          · exact HV.out a e
          · exact freeB_far (by rw [HM.out]; omega))
        go_wp2
        try rw [Exit.noGoto_ret]
        go_ret2
        exact ⟨by rw [HE.out]; rfl, rfl⟩
end Go.Proofs.YtcenagpkfimkbaaGreatDoor
/-
  The contract of Mem.Fill: a range over the function 'places'.
-/
namespace Go.Proofs.YtcenagpkfimkbaaGreatDoor
open Go Go.RowKit Go.Shelf

attribute [local go_sem] Oper.semAt_some

/-- What a round of Fill keeps: block B. -/
def KeepB (B : Nat) (A C : World) : Prop := C.heap[B]? = A.heap[B]?

theorem places_in (F : Fence) (n : Nat) (hf : F.fn 217) (hro : F.round = none) (f k : Int) (w : World) :
    CallsIn F n Tryz.prog 217 #[.agg #[.int .i64 f, .int .i64 k]] w fun e w' => e = .returned (.func (.func 228) #[] #[.pointer (some ⟨w.heap.size, 0, none⟩)]) ∧ w' = w.alloc (.cells #[.int .i64 f, .int .i64 k] 160) := by
  refine callsIn_of_wp Tryz.func217 rfl hf ?_ hro
  simp only [Tryz.ntmps217, List.size_toArray, List.length_cons, List.length_nil, Nat.reduceAdd, Nat.reduceSub, Array.replicate_succ, Array.replicate_zero, List.push_toArray, List.append_toArray, List.nil_append, List.cons_append]
  gi_wp2
  go_ret
  exact ⟨rfl, rfl⟩

set_option maxRecDepth 100000 in
set_option maxHeartbeats 2000000 in
theorem places1_in (F : Fence) (n : Nat) (h7 : F.fn 228) (hro : F.round = none) (hn : 1 ≤ n) (l B f k : Nat) (hfk : f + k ≤ 16384) (J Jx : List (Fin k) → World → Prop)
    (hY : ∀ pre x W, J pre W → pre.length < k → YieldAt F (n - 1) Tryz.prog l #[.int .i64 ((f : Int) + (x.1 : Int))] W fun e W' =>
      (e = .returned (.bool true) ∧ J (pre ++ [x]) W' ∧ KeepB B W W') ∨ (e = .returned (.bool false) ∧ Jx (pre ++ [x]) W'))
    (W : World) (hB : W.heap[B]? = some (.cells #[.int .i64 f, .int .i64 k] 160 (0, 0))) (h0 : J [] W) :
    CallsIn F n Tryz.prog 228 #[.func (.yield l) #[] #[], .pointer (some ⟨B, 0, none⟩)] W fun e W' => (∃ v, e = .returned v) ∧
      ((∃ ys : List (Fin k), ys.map (·.1) = List.range k ∧ J ys W') ∨ (∃ pre, True ∧ Jx pre W')) := by
  have c0 := heap_cell hB 0
  have c1 := heap_cell hB 1
  simp at c0 c1
  refine callsIn_of_wp Tryz.func228 rfl h7 ?_ hro
  simp only [Tryz.ntmps228, List.size_toArray, List.length_cons, List.length_nil, Nat.reduceAdd, Nat.reduceSub, Array.replicate_succ, Array.replicate_zero, List.push_toArray, List.append_toArray, List.nil_append, List.cons_append]
  gi_wp2
  gi_loopw [6] (fun i wr => ∃ (q : Nat) (ys : List (Fin k)), q ≤ k ∧ i = .int .i64 q ∧ ys.map (·.1) = List.range q ∧ J ys wr ∧ wr.heap[B]? = some (.cells #[.int .i64 f, .int .i64 k] 160 (0, 0)))
    (fun i _ => k - (intOf i).toNat)
  case atStart => exact ⟨0, [], Nat.zero_le _, rfl, rfl, h0, hB⟩
  case round =>
    obtain ⟨q, ys, hq, rfl, hys, hJs, hBr⟩ := hrel
    have b0 := heap_cell hBr 0
    simp at b0
    by_cases hlt : q < k
    · have hlen : ys.length = q := by have := congrArg List.length hys; simpa using this
      obtain ⟨fn, tmps, assign, body, hy, hR⟩ := hY ys ⟨q, hlt⟩ wr hJs (by omega)
      have HYS := Lib.hid hys
      clear hys c0 c1 hlen
      gi_wp2
      refine hR.mono ?_
      rintro e W3 (⟨rfl, hJ3, hk3⟩ | ⟨rfl, hJx3⟩)
      · gi_wp2
        go_roundw
        case rel => exact ⟨q + 1, ys ++ [⟨q, hlt⟩], by omega, by simp, by simp [HYS.out, List.range_succ], hJ3, hk3.trans hBr⟩
        case measure => simp [intOf]; omega
      · gi_wp2
        refine bodyPost_ret (results_none rfl _ _ _) rfl ?_
        exact ⟨⟨_, rfl⟩, .inr ⟨_, trivial, hJx3⟩⟩
    · obtain rfl : q = k := by omega
      gi_wp2
      go_end0
      exact ⟨⟨_, rfl⟩, .inl ⟨_, hys, hJs⟩⟩

theorem places_stops (F : Fence) (n : Nat) (h7 : F.fn 228) (hro : F.round = none) (hn : 1 ≤ n) (B f k : Nat) (hfk : f + k ≤ 16384) (w : World) (hB : w.heap[B]? = some (.cells #[.int .i64 f, .int .i64 k] 160 (0, 0))) :
    SeqStopsK F n Tryz.prog 228 #[.pointer (some ⟨B, 0, none⟩)] (fun x : Fin k => #[Value.int .i64 ((f : Int) + (x.1 : Int))]) (KeepB B) (fun ys => ys.map (·.1) = List.range k) (fun _ => True) k w := fun l J Jx W hW _ _ hY h0 =>
  places1_in F n h7 hro hn l B f k hfk J Jx hY W (heap_below hW hB (heap_lt hB)) h0

/-- The words behind some rounds. -/
def fillF (xs : List Int) (f : Nat) (v : Int) {k : Nat} (pre : List (Fin k)) : List Int := pre.foldl (fun l i => l.set (f + i.1) v) xs
theorem fillF_snoc (xs : List Int) (f : Nat) (v : Int) {k : Nat} (pre : List (Fin k)) (x : Fin k) : fillF xs f v (pre ++ [x]) = (fillF xs f v pre).set (f + x.1) v := by simp [fillF]
theorem fillF_length (xs : List Int) (f : Nat) (v : Int) {k : Nat} (pre : List (Fin k)) : (fillF xs f v pre).length = xs.length := by
  unfold fillF
  induction pre generalizing xs with
  | nil => rfl
  | cons x pre ih => simp [ih]
theorem fillF_get (xs : List Int) (f : Nat) (v : Int) {k : Nat} (pre : List (Fin k)) (j : Nat) : (fillF xs f v pre)[j]? = if j < xs.length ∧ (∃ x ∈ pre, f + x.1 = j) then some v else xs[j]? := by
  unfold fillF
  induction pre generalizing xs with
  | nil => simp
  | cons x pre ih =>
    simp only [List.foldl_cons, ih, List.length_set, List.mem_cons, exists_eq_or_imp]
    by_cases h : j < xs.length
    · by_cases h2 : ∃ y ∈ pre, f + y.1 = j
      · simp [h, h2]
      · by_cases h3 : f + x.1 = j
        · subst h3; simp [h]
        · rw [if_neg (by simp [h2]), if_neg (by simp [h2, h3]), List.getElem?_set_ne h3]
    · rw [if_neg (by simp [h]), if_neg (by simp [h])]
      rw [List.getElem?_eq_none (by simp; omega), List.getElem?_eq_none (by omega)]
theorem fillF_all (xs : List Int) (f : Nat) (v : Int) {k : Nat} (ys : List (Fin k)) (h : ys.map (·.1) = List.range k) (hk : f + k ≤ xs.length) :
    fillF xs f v ys = xs.take f ++ (List.replicate k v ++ xs.drop (f + k)) := by
  apply List.ext_getElem?
  intro j
  rw [fillF_get]
  have hex : (∃ x ∈ ys, f + x.1 = j) ↔ (f ≤ j ∧ j < f + k) := by
    constructor
    · rintro ⟨x, _, rfl⟩; have := x.2; omega
    · rintro ⟨h1, h2⟩
      have : j - f ∈ ys.map (·.1) := by rw [h]; simp; omega
      obtain ⟨x, hx, e⟩ := List.mem_map.1 this
      exact ⟨x, hx, by omega⟩
  simp only [hex]
  by_cases h1 : j < f
  · rw [if_neg (by omega), List.getElem?_append_left (by simp; omega), List.getElem?_take, if_pos h1]
  · rw [List.getElem?_append_right (by simp; omega)]
    have e1 : (xs.take f).length = f := by simp; omega
    rw [e1]
    by_cases h2 : j < f + k
    · rw [if_pos (by omega), List.getElem?_append_left (by rw [List.length_replicate]; omega), List.getElem?_replicate, if_pos (by omega)]
    · rw [if_neg (by omega), List.getElem?_append_right (by simp; omega)]
      rw [List.getElem?_drop, List.length_replicate, show f + k + (j - f - k) = j by omega]

def fillB (n : Nat) (f k : Int) : Bool := hasB n f k
def fillE (n : Nat) (f k : Int) : Int := if hasB n f k = true then 0 else 8
def fillL (xs : List Int) (f k v : Int) : List Int := if hasB xs.length f k = true then xs.take f.toNat ++ (List.replicate k.toNat v ++ xs.drop (f.toNat + k.toNat)) else xs
theorem fillL_length (xs : List Int) (f k v : Int) : (fillL xs f k v).length = xs.length := by
  unfold fillL
  split
  · rename_i h
    simp [hasB] at h
    simp
    omega
  · rfl

/-- What holds between two rounds of Fill. -/
def FillI (w0 : World) (b g B3 B5 : Nat) (xs : List Int) (f : Nat) (v : Int) {k : Nat} (pre : List (Fin k)) (W : World) : Prop :=
  MemAt W b g (fillF xs f v pre) ∧ W.heap[B3]? = some (.cells #[.pointer (some ⟨b, 0, none⟩)] 163 (0, 0)) ∧ W.heap[B5]? = some (.cells #[.int .u64 v] 34 (0, 0)) ∧ w0.grownBy W (some g)
theorem FillI.own (w0 : World) (b g B3 B5 : Nat) (xs : List Int) (f : Nat) (v : Int) {k : Nat} (B : Nat) (hB : w0.heap.size ≤ B) : OwnFrom B (FillI w0 b g B3 B5 xs f v (k := k)) := by
  rintro pre W W' row ⟨hM, h3, h5, hg⟩ hgr hr
  have key : ∀ {q : Nat} {arr : Array Value} {t : TypeId} {fr : Nat × Nat}, W.heap[q]? = some (.cells arr t fr) → W'.heap[q]? = some (.cells arr t fr) := by
    intro q arr t fr h
    refine (hgr.block q (heap_lt h) ?_).trans h
    intro e
    obtain ⟨_, o, ho, hc⟩ := hr q e.symm
    rw [h] at ho
    cases ho
    cases hc
  refine ⟨⟨key hM.1, key hM.2.1, hM.2.2⟩, key h3, key h5, hgr.os.trans hg.os, hgr.tape.trans hg.tape, hgr.output.trans hg.output, Nat.le_trans hg.size hgr.size, ?_⟩
  intro i hi hne
  refine (hgr.block i (Nat.lt_of_lt_of_le hi hg.size) ?_).trans (hg.block i hi hne)
  intro e
  have := (hr i e.symm).1
  omega

set_option maxRecDepth 100000 in
set_option maxHeartbeats 4000000 in
theorem wFill_good (b g : Nat) (xs : List Int) (f k : Nat) (v : Int) (w : World) (h : MemAt w b g xs) (hk : f + k ≤ xs.length) :
    CallsIn Fence.wide 3 Tryz.prog 193 #[.pointer (some ⟨b, 0, none⟩), .agg #[.int .i64 f, .int .i64 k], .int .u64 v] w fun e w' => e = .returned (.int .i64 0) ∧ w.grownBy w' (some g) ∧ MemAt w' b g (xs.take f ++ (List.replicate k v ++ xs.drop (f + k))) := by
  have hl := h.2.2
  have hlt := heap_lt h.1
  have hB : hasB xs.length f k = true := by simp [hasB]; omega
  have hW0 : Below w.heap.size w (((w.alloc (.cells #[.pointer (some ⟨b, 0, none⟩)] 163)).alloc (.cells #[.int .i64 f, .int .i64 k] 160)).alloc (.cells #[.int .u64 v] 34)) :=
    (((Below.refl _ _).alloc (Nat.le_refl _) _).alloc (by simp) _).alloc (by simp; omega) _
  have hM0 := h.later hW0
  refine callsIn_of_wp_marks Tryz.func193 rfl trivial ?_ rfl
  simp only [Tryz.ntmps193, List.size_toArray, List.length_cons, List.length_nil, Nat.reduceAdd, Nat.reduceSub, Array.replicate_succ, Array.replicate_zero, List.push_toArray, List.append_toArray, List.nil_append, List.cons_append]
  gi_wp2_with (first | (refine ⟨trivial, ?_⟩; gi_at_call 216; refine (callsIn_wide.2 (whas_any _ _ _ _ _ _ hM0)).mono ?_; rw [hB]; rintro e w1 ⟨rfl, hb1⟩; obtain ⟨hc1, hf1, hs1⟩ := bcell hb1; simp only [World.size_alloc] at hs1; have hz1 := Nat.lt_of_succ_le hs1; have hz2 := Nat.lt_of_succ_lt hz1; have hz3 := Nat.lt_of_succ_lt hz2) | (refine ⟨trivial, ?_⟩; gi_at_call 217; refine (places_in Fence.wide _ trivial rfl _ _ _).mono ?_; rintro e w2 ⟨rfl, rfl⟩))
  have hM1 : MemAt w1 b g xs := hM0.later hb1
  have x3 : w1.heap[w.heap.size]? = some (.cells #[.pointer (some ⟨b, 0, none⟩)] 163 (0, 0)) := heap_below hb1 (heap_alloc_lt (heap_alloc_lt (heap_alloc_eq _ _) _) _) (by simp; omega)
  have x5 : w1.heap[w.heap.size + 1 + 1]? = some (.cells #[.int .u64 v] 34 (0, 0)) := heap_below hb1 (by simpa using heap_alloc_eq ((w.alloc (.cells #[.pointer (some ⟨b, 0, none⟩)] 163)).alloc (.cells #[.int .i64 f, .int .i64 k] 160)) (.cells #[.int .u64 v] 34)) (by simp)
  have hW1 : Below w.heap.size w w1 := hW0.trans (hb1.mono (by simp; omega))
  clear hc1 hf1 hb1 hM0 hW0
  have hbox := heap_alloc_eq w1 (.cells #[.int .i64 f, .int .i64 k] 160)
  have hbm := hM1.ne
  refine wpIn_rangeFunc_ownF (F := Fence.wide) rfl (by omega) (gf := 228) (lb := #[.pointer (some ⟨w1.heap.size, 0, none⟩)]) rfl trivial (enters_of Tryz.func228 (by kernel_rfl) rfl)
    (places_stops Fence.wide 2 trivial rfl (by omega) w1.heap.size f k (by omega) _ hbox) (fun h1 h2 => h2.trans h1)
    (fun W l o o' hl ho hc _ => World.putObj_heap_other (by simp at hl; omega)) (Below.refl _ _) (fun _ => rfl)
    (fun pre W => FillI w b g w.heap.size (w.heap.size + 1 + 1) xs f v pre W)
    (fun _ _ _ => False)
    (FillI.own _ _ _ _ _ _ _ _ _ (by simp; omega))
    (fun _ _ _ _ _ hs _ _ => hs)
    ⟨hM1.later ((Below.refl _ _).alloc (Nat.le_refl _) _), heap_alloc_lt x3 _, heap_alloc_lt x5 _, grown_of_below (hW1.alloc (by omega) _) _⟩
    (fun x => { tmps := #[.pointer (some ⟨b, 0, none⟩), .agg #[.int .i64 f, .int .i64 k], .int .u64 v, .pointer (some ⟨w.heap.size, 0, none⟩), .pointer (some ⟨w.heap.size + 1, 0, none⟩), .pointer (some ⟨w.heap.size + 1 + 1, 0, none⟩), .int .i64 0, .int .i64 ((f : Int) + (x.1 : Int)), .pointer (some ⟨b, 0, none⟩), .agg #[.int .i64 f, .int .i64 k], .bool true, .bool false, .agg #[.int .i64 f, .int .i64 k], .func (.func 228) #[] #[.pointer (some ⟨w1.heap.size, 0, none⟩)], .int .i64 ((f : Int) + (x.1 : Int)), undef, undef, undef, undef, undef, undef, undef], defers := [] }) ?assign ?body ?done ?stop
  case assign =>
    intro l x W K hK
    gi_wp2
    exact hK
  case body =>
    rintro l pre x W ⟨hMr, h3r, h5r, hgr⟩ _
    have hx := x.2
    have y3 := heap_cell h3r 0
    have y5 := heap_cell h5r 0
    have ym := hMr.cell
    have YL := Lib.hid (fillF_length xs f v pre)
    have yw := hMr.word (f + x.1) (by rw [YL.out]; omega)
    have yf := hMr.free (f + x.1)
    simp at y3 y5

    have r1 : ((f : Int) + (x.1 : Int)).toNat = f + x.1 := by omega
    have r2 : (0 : Int) ≤ (f : Int) + (x.1 : Int) := by omega
    have r3 : (f : Int) + (x.1 : Int) < ((fillF xs f v pre).length : Int) := by rw [YL.out]; omega
    have hmix : Tryz.prog.follows .mixedOrders = true := by kernel_rfl
    have hgb : w.heap.size ≠ g := by have := heap_lt h.2.1; omega
    have hgb2 : w.heap.size + 1 + 1 ≠ g := by have := heap_lt h.2.1; omega
    have hBg : w1.heap.size ≠ g := by have := heap_lt h.2.1; omega
    have fin : KeepsOthers W ((W.setCell ⟨g, f + x.1, none⟩ (.int .u64 v)).drew) ∧ KeepB w1.heap.size W ((W.setCell ⟨g, f + x.1, none⟩ (.int .u64 v)).drew) ∧ FillI w b g w.heap.size (w.heap.size + 1 + 1) xs f v (pre ++ [x]) ((W.setCell ⟨g, f + x.1, none⟩ (.int .u64 v)).drew) := by
      refine ⟨(KeepsOthers.setCell _ _ _).trans (KeepsOthers.drew _), heap_set_ne hBg _ _, ?_⟩
      refine ⟨?_, (heap_set_ne hgb _ _).trans h3r, (heap_set_ne hgb2 _ _).trans h5r, grown_trans (grown_trans hgr (grown_set _ _ _ _)) (grown_drew _ _)⟩
      rw [fillF_snoc]
      exact hMr.set _ _
    have FIN := Lib.hid fin
    clear fin
    gi_wp2
    gi_region_o
    all_goals (gi_wp2; exact FIN.out)
  case done =>
    rintro D ys W hD hys ⟨hMr, h3r, h5r, hgr⟩ hK
    gi_wp2
    refine ⟨by simp, .inl ⟨_, _, rfl, run_takeDeferred hK, ?_⟩⟩
    have hDs : w.heap.size ≤ D := by simp at hD; omega
    have n1 : b ≠ D := by intro e; have := hMr.1; rw [e, hK] at this; cases this
    have n2 : g ≠ D := by intro e; have := hMr.2.1; rw [e, hK] at this; cases this
    refine ⟨_, results_tmp rfl _ _ _, rfl, grown_new hgr (grownBy_putObj' W D (.deferred none)) hDs, ?_⟩
    rw [fillF_all xs f v ys hys hk] at hMr
    exact ⟨(World.putObj_heap_other n1).trans hMr.1, (World.putObj_heap_other n2).trans hMr.2.1, hMr.2.2⟩
  case stop =>
    rintro D c pre W _ _ h _
    exact h.elim

theorem wFill_any (b g : Nat) (xs : List Int) (f k v : Int) (w : World) (h : MemAt w b g xs) :
    Calls Tryz.prog 193 #[.pointer (some ⟨b, 0, none⟩), .agg #[.int .i64 f, .int .i64 k], .int .u64 v] w fun e w' => e = .returned (.int .i64 (fillE xs.length f k)) ∧ w.grownBy w' (some g) ∧ MemAt w' b g (fillL xs f k v) := by
  cases hB : hasB xs.length f k
  · have e1 : Hid (fillL xs f k v = xs) := by show _ = _; simp [fillL, hB]
    have e2 : Hid (fillE xs.length f k = 8) := by show _ = _; simp [fillE, hB]
    have hW0 : Below w.heap.size w (((w.alloc (.cells #[.pointer (some ⟨b, 0, none⟩)] 163)).alloc (.cells #[.int .i64 f, .int .i64 k] 160)).alloc (.cells #[.int .u64 v] 34)) :=
      (((Below.refl _ _).alloc (Nat.le_refl _) _).alloc (by simp) _).alloc (by simp; omega) _
    have hM0 := h.later hW0
    have hlt := heap_lt h.1
    go_enter Tryz.func193, Tryz.ntmps193
    go_wp2_with (go_at_call 216; refine (whas_any _ _ _ _ _ _ hM0).mono ?_; rw [hB]; rintro e w1 ⟨rfl, hb1⟩)
    go_ret
    rw [e1.out, e2.out]
    have hB1 := hW0.trans (hb1.mono (by simp; omega))
    exact ⟨rfl, grown_of_below hB1 _, h.later hB1⟩
  · have q := hB
    simp [hasB] at q
    obtain ⟨q1, q2, q3, q4⟩ := q
    obtain ⟨f, rfl⟩ := Int.eq_ofNat_of_zero_le q1
    obtain ⟨k, rfl⟩ := Int.eq_ofNat_of_zero_le q2
    refine (callsIn_wide.1 (wFill_good b g xs f k v w h (by omega))).mono ?_
    rintro e w' ⟨rfl, h1, h2⟩
    refine ⟨by simp [fillE, hB], h1, ?_⟩
    simpa [fillL, hB] using h2
end Go.Proofs.YtcenagpkfimkbaaGreatDoor
/-
  pages.Pages: what it is in the model; New, Mem, Grant.
-/
namespace Go.Proofs.YtcenagpkfimkbaaGreatDoor
open Go Go.RowKit

/-- At block pb lie pages: their marks (row), their words (mem). -/
structure PagesAt (w : World) (pb rb rw mb mw : Nat) (gs : List Bool) (ms : List Int) : Prop where
  blk : w.heap[pb]? = some (.cells #[.pointer (some ⟨rb, 0, none⟩), .pointer (some ⟨mb, 0, none⟩)] 179 (0, 0))
  row : RowAt w rb rw gs
  mem : MemAt w mb mw ms
  len : ms.length = 16 * gs.length
  lo : 1 ≤ gs.length
  hi : gs.length ≤ 1024
  ne : rw ≠ mw
theorem MemAt.moved {w w' : World} {b g : Nat} {xs : List Int} {T : Nat → Prop} (h : MemAt w b g xs) (hm : Moved T w w') (hb : ¬ T b) (hg : ¬ T g) : MemAt w' b g xs :=
  ⟨hm.heap h.1 hb, hm.heap h.2.1 hg, h.2.2⟩
theorem PagesAt.moved {w w' : World} {pb rb rw mb mw : Nat} {gs : List Bool} {ms : List Int} {T : Nat → Prop} (h : PagesAt w pb rb rw mb mw gs ms) (hm : Moved T w w') (h1 : ¬ T pb) (h2 : ¬ T rb) (h3 : ¬ T rw) (h4 : ¬ T mb) (h5 : ¬ T mw) : PagesAt w' pb rb rw mb mw gs ms :=
  ⟨hm.heap h.blk h1, h.row.moved hm h2 h3, h.mem.moved hm h4 h5, h.len, h.lo, h.hi, h.ne⟩
theorem PagesAt.later {w w' : World} {pb rb rw mb mw : Nat} {gs : List Bool} {ms : List Int} (h : PagesAt w pb rb rw mb mw gs ms) (hb : Below w.heap.size w w') : PagesAt w' pb rb rw mb mw gs ms :=
  h.moved (Moved.of_below hb (fun _ => False)) id id id id id
theorem heap_ne {w : World} {a b : Nat} {x y : Obj} (h : w.heap[a]? = some x) (k : w.heap[b]? = some y) (hne : x ≠ y) : a ≠ b := by
  rintro rfl
  rw [h] at k
  exact hne (Option.some.inj k)
theorem RowAt.blocks {w : World} {b g : Nat} {xs : List Bool} (h : RowAt w b g xs) : (∃ cs, w.heap[b]? = some (.cells cs 231 (0, 0))) ∧ ∃ cs, w.heap[g]? = some (.cells cs 34 (0, 0)) := by
  obtain ⟨ws, _, h1, h2, _⟩ := h
  exact ⟨⟨_, h1⟩, ⟨_, h2⟩⟩
/-- The blocks of pages are five. -/
theorem PagesAt.apart {w : World} {pb rb rw mb mw : Nat} {gs : List Bool} {ms : List Int} (h : PagesAt w pb rb rw mb mw gs ms) :
    pb ≠ rb ∧ pb ≠ rw ∧ pb ≠ mb ∧ pb ≠ mw ∧ rb ≠ rw ∧ rb ≠ mb ∧ rb ≠ mw ∧ rw ≠ mb ∧ rw ≠ mw ∧ mb ≠ mw := by
  obtain ⟨⟨_, r1⟩, ⟨_, r2⟩⟩ := h.row.blocks
  exact ⟨heap_ne h.blk r1 (by simp), heap_ne h.blk r2 (by simp), heap_ne h.blk h.mem.1 (by simp), heap_ne h.blk h.mem.2.1 (by simp), heap_ne r1 r2 (by simp), heap_ne r1 h.mem.1 (by simp), heap_ne r1 h.mem.2.1 (by simp), heap_ne r2 h.mem.1 (by simp), h.ne, heap_ne h.mem.1 h.mem.2.1 (by simp)⟩
/-- The same, as a thing whose blocks these are. -/
def PagesP (pb rb rw mb mw : Nat) (gs : List Bool) (ms : List Int) : HP := fun w S => PagesAt w pb rb rw mb mw gs ms ∧ ∀ k, S k ↔ k = pb ∨ k = rb ∨ k = rw ∨ k = mb ∨ k = mw
theorem PagesP.ok (pb rb rw mb mw : Nat) (gs : List Bool) (ms : List Int) : (PagesP pb rb rw mb mw gs ms).Ok := by
  constructor
  · rintro w w' S T ⟨h, hs⟩ hm hd
    exact ⟨h.moved hm (hd _ ((hs _).2 (by simp))) (hd _ ((hs _).2 (by simp))) (hd _ ((hs _).2 (by simp))) (hd _ ((hs _).2 (by simp))) (hd _ ((hs _).2 (by simp))), hs⟩
  · rintro w S ⟨h, hs⟩ k hk
    obtain ⟨⟨_, r1⟩, ⟨_, r2⟩⟩ := h.row.blocks
    rcases (hs k).1 hk with rfl | rfl | rfl | rfl | rfl
    · exact heap_lt h.blk
    · exact heap_lt r1
    · exact heap_lt r2
    · exact heap_lt h.mem.1
    · exact heap_lt h.mem.2.1

set_option maxRecDepth 100000 in
theorem pNew_any (n : Nat) (w : World) (h1 : 1 ≤ n) (h2 : n ≤ 1024) :
    Calls Tryz.prog 36 #[.int .i64 n] w fun e w' => ∃ pb rb rw mb mw, e = .returned (.tuple #[.pointer (some ⟨pb, 0, none⟩), .int .i64 0]) ∧ Below w.heap.size w w' ∧ PagesAt w' pb rb rw mb mw (List.replicate n false) (List.replicate (16 * n) 0) ∧ (w.heap.size ≤ pb ∧ w.heap.size ≤ rb ∧ w.heap.size ≤ rw ∧ w.heap.size ≤ mb ∧ w.heap.size ≤ mw) := by
  have hb := bNew_any n w (by omega)
  go_enter Tryz.func36, Tryz.ntmps36
  go_wp2_with fail
  refine hb.mono ?_
  rintro e w1 ⟨rfl, hb1, hr⟩
  have hw := wNew_any (16 * n) w1 (by omega)
  rw [show ((16 * n : Nat) : Int) = (n : Int) * 16 by omega] at hw
  obtain ⟨rb, hrb⟩ : ∃ x, w.heap.size + 1 = x := ⟨_, rfl⟩
  rw [hrb] at hr ⊢
  have HR := Lib.hid (And.intro hr (And.intro hb1 hrb))
  clear hb hr hb1 hrb
  go_wp2_with fail
  refine hw.mono ?_
  rintro e w2 ⟨rfl, hb2, hm⟩
  have HM := Lib.hid (And.intro hm hb2)
  clear hw hm hb2
  go_wp2
  go_ret2
  have hb3 : Below w2.heap.size w2 (w2.alloc (.cells #[.pointer (some ⟨rb, 0, none⟩), .pointer (some ⟨w1.heap.size + 1, 0, none⟩)] 179)) := (Below.refl _ _).alloc (Nat.le_refl _) _
  have hs1 := HR.out.2.1.size
  have hs2 := HM.out.2.size
  have hrw : w.heap.size < w1.heap.size := by
    obtain ⟨_, ⟨_, h⟩⟩ := HR.out.1.blocks
    exact heap_lt h
  have hrr := HR.out.2.2
  refine ⟨_, rb, w.heap.size, w1.heap.size + 1, w1.heap.size, rfl, (HR.out.2.1.trans (HM.out.2.mono hs1)).trans (hb3.mono (by omega)), ⟨heap_alloc_eq _ _, (HR.out.1.later HM.out.2).later hb3, HM.out.1.later hb3, by simp, by simpa using h1, by simpa using h2, by omega⟩, by omega, by omega, by omega, by omega, by omega⟩
theorem pNew_bad (n : Int) (w : World) (h : n < 1 ∨ 1024 < n) :
    Calls Tryz.prog 36 #[.int .i64 n] w fun e w' => e = .returned (.tuple #[.pointer none, .int .i64 1]) ∧ w = w' := by
  rcases h with h | h
  · go_enter Tryz.func36, Tryz.ntmps36
    go_wp2
    go_ret2
    exact ⟨rfl, rfl⟩
  · have h1 : ¬ n < 1 := by omega
    go_enter Tryz.func36, Tryz.ntmps36
    go_wp2
    go_ret2
    exact ⟨rfl, rfl⟩

theorem pMem_any {pb rb rw mb mw : Nat} {gs : List Bool} {ms : List Int} {w : World} (h : PagesAt w pb rb rw mb mw gs ms) :
    Calls Tryz.prog 89 #[.pointer (some ⟨pb, 0, none⟩)] w fun e w' => e = .returned (.pointer (some ⟨mb, 0, none⟩)) ∧ w = w' := by
  have c1 := heap_cell h.blk 1
  simp at c1
  clear h
  go_enter Tryz.func89, Tryz.ntmps89
  go_wp2
  go_ret
  exact ⟨rfl, rfl⟩

/-- What Grant answers: the first page, the error's number; the marks and words then. -/
def grE (gs : List Bool) (n : Int) : Int := if n < 1 then 1 else if (findM gs n).isSome = true then 0 else 3
def grS (gs : List Bool) (n : Int) : List Bool := match findM gs n with | none => gs | some a => markX gs a n true
def grM (gs : List Bool) (ms : List Int) (n : Int) : List Int := match findM gs n with | none => ms | some a => fillL ms (16 * a) (16 * n) 0
theorem markX_len (xs : List Bool) (f k : Int) (on : Bool) : (markX xs f k on).length = xs.length := by
  unfold markX
  split
  · rename_i h
    exact markL_len _ _ _ _ (by simp [hasB] at h; omega)
  · rfl
theorem grS_len (gs : List Bool) (n : Int) : (grS gs n).length = gs.length := by
  unfold grS
  split
  · rfl
  · exact markX_len _ _ _ _
theorem grM_len (gs : List Bool) (ms : List Int) (n : Int) : (grM gs ms n).length = ms.length := by
  unfold grM
  split
  · rfl
  · exact fillL_length _ _ _ _
theorem findM_le {xs : List Bool} {n : Int} {a : Nat} (h : findM xs n = some a) : 1 ≤ n ∧ (a : Int) + n ≤ xs.length := by
  unfold findM at h
  split at h
  · cases h
  · rw [List.find?_range_eq_some] at h
    have := h.1
    simp only [freeB, Bool.and_eq_true, decide_eq_true_eq] at this
    exact ⟨by omega, by omega⟩
theorem findM_neg {xs : List Bool} {n : Int} (h : n < 1) : findM xs n = none := by rw [findM, if_pos h]

set_option maxRecDepth 100000 in
set_option maxHeartbeats 1000000 in
theorem pGrant_any {pb rb rw mb mw : Nat} {gs : List Bool} {ms : List Int} {w : World} (h : PagesAt w pb rb rw mb mw gs ms) (n : Int) (hn : n ≤ 9223372036854775807) :
    Calls Tryz.prog 191 #[.pointer (some ⟨pb, 0, none⟩), .int .i64 n] w fun e w' => e = .returned (.tuple #[.int .i64 ((findM gs n).getD 0 : Nat), .int .i64 (grE gs n)]) ∧ Moved (fun q => q = rw ∨ q = mw) w w' ∧ PagesAt w' pb rb rw mb mw (grS gs n) (grM gs ms n) := by
  have H := Lib.hid h
  have c0 := heap_cell h.blk 0
  simp at c0
  have hf := bFind_any rb rw gs n w h.row hn
  by_cases h1 : n < 1
  · have e1 : Hid (findM gs n = none) := Lib.hid (findM_neg h1)
    have e2 : Hid (grE gs n = 1) := Lib.hid (by rw [grE, if_pos h1])
    clear h c0 hf
    go_enter Tryz.func191, Tryz.ntmps191
    go_wp2
    go_ret2
    refine ⟨by rw [e1.out, e2.out]; rfl, Moved.refl _ _, ?_⟩
    rw [grS, grM, e1.out]
    exact H.out
  · cases hq : findM gs n with
    | none =>
      have e2 : Hid (grE gs n = 3) := Lib.hid (by rw [grE, if_neg h1, hq]; rfl)
      have e3 : Hid (grS gs n = gs) := Lib.hid (by rw [grS, hq])
      have e4 : Hid (grM gs ms n = ms) := Lib.hid (by rw [grM, hq])
      rw [hq] at hf
      simp only [Option.getD_none, Option.isSome_none] at hf
      clear h hq
      go_enter Tryz.func191, Tryz.ntmps191
      go_wp2_with fail
      refine hf.mono ?_
      rintro e w1 ⟨rfl, rfl⟩
      clear hf
      go_wp2
      go_ret2
      exact ⟨by rw [e2.out]; rfl, Moved.refl _ _, by rw [e3.out, e4.out]; exact H.out⟩
    | some a =>
      have hle := findM_le hq
      have hhi := h.hi
      have e2 : Hid (grE gs n = 0) := Lib.hid (by rw [grE, if_neg h1, hq]; rfl)
      have e3 : Hid (grS gs n = markX gs a n true) := Lib.hid (by rw [grS, hq])
      have e4 : Hid (grM gs ms n = fillL ms (16 * a) (16 * n) 0) := Lib.hid (by rw [grM, hq])
      rw [hq] at hf
      simp only [Option.getD_some, Option.isSome_some] at hf
      have hmk := bMark_any rb rw gs a n true w h.row
      have hap := h.apart
      have i1 : (a : Int) ≤ 1024 := by omega
      have i2 : n ≤ 1024 := by omega
      have HA := Lib.hid hap
      clear h hq hap hle hhi
      go_enter Tryz.func191, Tryz.ntmps191
      go_wp2_with fail
      refine hf.mono ?_
      rintro e w1 ⟨rfl, rfl⟩
      clear hf
      go_wp2_with fail
      refine hmk.mono ?_
      rintro e w2 ⟨rfl, hm2, hr2⟩
      have hM2 := H.out.mem.moved hm2 (fun e => HA.out.2.2.2.2.2.2.2.1 e.symm) (fun e => H.out.ne e.symm)
      have hblk := hm2.heap H.out.blk HA.out.2.1
      have c1 := heap_cell hblk 1
      simp at c1
      have hfl := wFill_any mb mw ms (16 * a) (16 * n) 0 w2 hM2
      rw [show (16 * (a : Int)) = (a : Int) * 16 by omega, show 16 * n = n * 16 by omega] at hfl
      have HH := Lib.hid (And.intro hm2 (And.intro hr2 hblk))
      clear hmk hm2 hr2 hM2 hblk c0
      go_wp2_with fail
      refine hfl.mono ?_
      rintro e w3 ⟨rfl, hg3, hm3⟩
      have hmv : Moved (fun q => q = mw) w2 w3 := .of_grown hg3 (fun k e => by cases e; rfl)
      have HI := Lib.hid (And.intro hmv hm3)
      clear hfl hg3 hm3 hmv c1
      go_wp2
      go_ret2
      refine ⟨by rw [e2.out]; rfl, ?_, ?_⟩
      · have k1 : Moved (fun q => q = rw ∨ q = mw) w w2 := ⟨HH.out.1.os, HH.out.1.tape, HH.out.1.output, HH.out.1.size, fun k hk hs => HH.out.1.block k hk (fun e => hs (.inl e))⟩
        exact k1.trans HI.out.1 (fun q e => .inl (.inr e))
      · rw [e3.out, e4.out]
        have := HI.out.2
        rw [show (a : Int) * 16 = 16 * (a : Int) by omega, show n * 16 = 16 * n by omega] at this
        exact ⟨HI.out.1.heap HH.out.2.2 HA.out.2.2.2.1, HH.out.2.1.moved HI.out.1 HA.out.2.2.2.2.2.2.1 HA.out.2.2.2.2.2.2.2.2.1, this, by rw [fillL_length, markX_len, H.out.len], by rw [markX_len]; exact H.out.lo, by rw [markX_len]; exact H.out.hi, H.out.ne⟩
end Go.Proofs.YtcenagpkfimkbaaGreatDoor
/-
  owner.Map: what it is in the model; New, Page, Word.
-/
namespace Go.Proofs.YtcenagpkfimkbaaGreatDoor
open Go Go.RowKit

def ptrV : Nat → Value := fun b => .pointer (some ⟨b, 0, none⟩)
/-- Whose the pages of a group are. -/
def groupRow (ow : Nat → Int) (k : Nat) : List Int := (List.range 32).map fun i => ow (32 * k + i)
def ints (l : List Int) : Array Value := (l.map (Value.int .i64)).toArray
/-- At block ob lies a map of pages, its map in block om, its groups in the blocks of gm. -/
structure OwnerAt (w : World) (ob om : Nat) (gm : IM Nat) (n : Nat) (ow : Nat → Int) : Prop where
  blk : w.heap[ob]? = some (.cells #[.map (some om), .int .i64 n] 184 (0, 0))
  map : MapAt .i64 3 w om (mapV ptrV gm)
  grp : ∀ (k : Int) (b : Nat), lk gm k = some b → 0 ≤ k ∧ k < 32 ∧ w.heap[b]? = some (.cells (ints (groupRow ow k.toNat)) 252 (0, 0))
  inj : ∀ (k j : Int) (b : Nat), lk gm k = some b → lk gm j = some b → k = j
  zero : ∀ k : Nat, lk gm (k : Int) = none → ∀ i, i < 32 → ow (32 * k + i) = 0
  len : n ≤ 1024
theorem OwnerAt.moved {w w' : World} {ob om : Nat} {gm : IM Nat} {n : Nat} {ow : Nat → Int} {T : Nat → Prop} (h : OwnerAt w ob om gm n ow) (hm : Moved T w w') (h1 : ¬ T ob) (h2 : ¬ T om) (h3 : ∀ k b, lk gm k = some b → ¬ T b) : OwnerAt w' ob om gm n ow :=
  ⟨hm.heap h.blk h1, h.map.moved hm h2, fun k b hk => ⟨(h.grp k b hk).1, (h.grp k b hk).2.1, hm.heap (h.grp k b hk).2.2 (h3 k b hk)⟩, h.inj, h.zero, h.len⟩
theorem OwnerAt.later {w w' : World} {ob om : Nat} {gm : IM Nat} {n : Nat} {ow : Nat → Int} (h : OwnerAt w ob om gm n ow) (hb : Below w.heap.size w w') : OwnerAt w' ob om gm n ow :=
  h.moved (Moved.of_below hb (fun _ => False)) id id (fun _ _ _ => id)
theorem OwnerAt.rising {w : World} {ob om : Nat} {gm : IM Nat} {n : Nat} {ow : Nat → Int} (h : OwnerAt w ob om gm n ow) : Rising gm := (rising_mapV _ gm).1 h.map.rising
theorem OwnerAt.apart {w : World} {ob om : Nat} {gm : IM Nat} {n : Nat} {ow : Nat → Int} (h : OwnerAt w ob om gm n ow) : ob ≠ om ∧ ∀ k b, lk gm k = some b → b ≠ ob ∧ b ≠ om := by
  obtain ⟨es, clock, hh⟩ := h.map.block
  refine ⟨heap_ne h.blk hh (by simp), fun k b hk => ?_⟩
  have hg := (h.grp k b hk).2.2
  exact ⟨heap_ne hg h.blk (by simp [ints]), heap_ne hg hh (by simp)⟩
def OwnerP (ob om : Nat) (n : Nat) (ow : Nat → Int) : HP := fun w S => ∃ gm, OwnerAt w ob om gm n ow ∧ ∀ k, S k ↔ k = ob ∨ k = om ∨ ∃ j, lk gm j = some k
theorem OwnerP.ok (ob om : Nat) (n : Nat) (ow : Nat → Int) : (OwnerP ob om n ow).Ok := by
  constructor
  · rintro w w' S T ⟨gm, h, hs⟩ hm hd
    exact ⟨gm, h.moved hm (hd _ ((hs _).2 (.inl rfl))) (hd _ ((hs _).2 (.inr (.inl rfl)))) (fun k b hk => hd _ ((hs _).2 (.inr (.inr ⟨k, hk⟩)))), hs⟩
  · rintro w S ⟨gm, h, hs⟩ k hk
    rcases (hs k).1 hk with rfl | rfl | ⟨j, hj⟩
    · exact heap_lt h.blk
    · exact h.map.lt
    · exact heap_lt (h.grp j k hj).2.2

theorem zero_group (w : World) : (zeroValue 250).run Tryz.prog w = .ok (.pointer none) w := by kernel_rfl
theorem look_group {w : World} {om : Nat} {gm : IM Nat} (h : MapAt .i64 3 w om (mapV ptrV gm)) (x : Int) (h0 : -9223372036854775808 ≤ x) (h1 : x ≤ 9223372036854775807) :
    (Instr.lookup 182 (.map (some om)) (.int .i64 x) false).run Tryz.prog w = .ok (.pointer ((lk gm x).map fun b => ⟨b, 0, none⟩)) w := by
  have hl := h.lookup Tryz.underlying3 Tryz.underlying182 (zero_group w) x (wf_i64 h0 h1)
  rw [lk_mapV] at hl
  rw [hl]
  cases lk gm x <;> rfl

set_option maxRecDepth 100000 in
theorem oNew_any (n : Nat) (w : World) (hn : n ≤ 1024) :
    Calls Tryz.prog 39 #[.int .i64 n] w fun e w' => e = .returned (.pointer (some ⟨w.heap.size + 1, 0, none⟩)) ∧ Below w.heap.size w w' ∧ OwnerAt w' (w.heap.size + 1) w.heap.size [] n (fun _ => 0) := by
  have y1 : (if (n : Int) < 0 then (0 : Int) else n) = n := by split <;> omega
  have y2 : (if (n : Int) ≤ 0 then (0 : Int) else n) = n := by split <;> omega
  have y3 : (if (1024 : Int) < n then (1024 : Int) else n) = n := by split <;> omega
  have y4 : (if (1024 : Int) ≤ n then (1024 : Int) else n) = n := by split <;> omega
  have hmm := @run_makeMap Tryz.prog
  go_enter Tryz.func39, Tryz.ntmps39
  go_wp2
  go_ret
  refine ⟨rfl, ((Below.refl _ _).alloc (Nat.le_refl _) _).alloc (by simp) _, ⟨?_, ?_, (fun k b hk => by cases hk), (fun k j b hk => by cases hk), fun _ _ _ _ => rfl, hn⟩⟩
  · simpa using heap_alloc_eq (w.alloc (.map #[] 0)) (.cells #[.map (some w.heap.size), .int .i64 n] 184)
  · exact (MapAt.made w).later ((Below.refl _ _).alloc (Nat.le_refl _) _)

theorem groupRow_at (ow : Nat → Int) (k i : Nat) (hi : i < 32) : (ints (groupRow ow k))[i]? = some (.int .i64 (ow (32 * k + i))) := by
  simp [ints, groupRow, hi]

/-- Whose a page is. -/
def owP (n : Nat) (ow : Nat → Int) (p : Int) : Int := if 0 ≤ p ∧ p < n then ow p.toNat else 0

set_option maxRecDepth 100000 in
theorem oPage_any {w : World} {ob om : Nat} {gm : IM Nat} {n : Nat} {ow : Nat → Int} (h : OwnerAt w ob om gm n ow) (p : Int) :
    Calls Tryz.prog 195 #[.pointer (some ⟨ob, 0, none⟩), .int .i64 p] w fun e w' => e = .returned (.int .i64 (owP n ow p)) ∧ w = w' := by
  have c0 := heap_cell h.blk 0
  have c1 := heap_cell h.blk 1
  simp at c0 c1
  by_cases h0 : p < 0
  · have e1 : Hid (owP n ow p = 0) := Lib.hid (by rw [owP, if_neg (by omega)])
    clear h c0 c1
    go_enter Tryz.func195, Tryz.ntmps195
    go_wp2
    go_ret
    exact ⟨by rw [e1.out]; rfl, rfl⟩
  by_cases h1 : (n : Int) ≤ p
  · have e1 : Hid (owP n ow p = 0) := Lib.hid (by rw [owP, if_neg (by omega)])
    clear h c0
    go_enter Tryz.func195, Tryz.ntmps195
    go_wp2
    go_ret
    exact ⟨by rw [e1.out]; rfl, rfl⟩
  obtain ⟨p, rfl⟩ := Int.eq_ofNat_of_zero_le (show 0 ≤ p by omega)
  have hn := h.len
  have e1 : Hid (owP n ow (p : Int) = ow p) := Lib.hid (by rw [owP, if_pos (by omega), Int.toNat_natCast])
  have hl := look_group h.map ((p : Int) / 32) (by omega) (by omega)
  cases hg : lk gm ((p : Int) / 32) with
  | none =>
    have hz := h.zero (p / 32) (by rw [show ((p / 32 : Nat) : Int) = (p : Int) / 32 by omega]; exact hg) (p % 32) (by omega)
    rw [show 32 * (p / 32) + p % 32 = p by omega] at hz
    have HZ := Lib.hid hz
    rw [hg] at hl
    simp only [Option.map_none] at hl
    clear h hg hz
    go_enter Tryz.func195, Tryz.ntmps195
    go_wp2
    go_ret
    exact ⟨by rw [e1.out, HZ.out]; rfl, rfl⟩
  | some b =>
    have hb := (h.grp _ b hg).2.2
    have cg := heap_cell hb (p % 32)
    rw [groupRow_at ow _ _ (by omega), show 32 * ((p : Int) / 32).toNat + p % 32 = p by omega] at cg
    obtain ⟨v, hv⟩ : ∃ v, ow p = v := ⟨_, rfl⟩
    rw [hv] at cg e1
    rw [hg] at hl
    simp only [Option.map_some] at hl
    obtain ⟨m, hm⟩ : ∃ m, p % 32 = m := ⟨_, rfl⟩
    rw [hm] at cg
    have y1 : (p : Int) % 32 = (m : Int) := by omega
    have y2 : (m : Int) < 32 := by omega
    clear h hg hb hv hm
    go_enter Tryz.func195, Tryz.ntmps195
    go_wp2
    go_ret
    exact ⟨by rw [e1.out]; rfl, rfl⟩

def owW (n : Nat) (ow : Nat → Int) (a : Int) : Int := if a < 0 then 0 else owP n ow (a / 16)
set_option maxRecDepth 100000 in
theorem oWord_any {w : World} {ob om : Nat} {gm : IM Nat} {n : Nat} {ow : Nat → Int} (h : OwnerAt w ob om gm n ow) (a : Int) (h1 : a ≤ 9223372036854775807) :
    Calls Tryz.prog 166 #[.pointer (some ⟨ob, 0, none⟩), .int .i64 a] w fun e w' => e = .returned (.int .i64 (owW n ow a)) ∧ w = w' := by
  have hp := oPage_any h (a / 16)
  by_cases h0 : a < 0
  · have e1 : Hid (owW n ow a = 0) := Lib.hid (if_pos h0)
    clear h hp
    go_enter Tryz.func166, Tryz.ntmps166
    go_wp2
    go_ret
    exact ⟨by rw [e1.out]; rfl, rfl⟩
  · have e1 : Hid (owW n ow a = owP n ow (a / 16)) := Lib.hid (if_neg h0)
    have h2 : 0 ≤ a := by omega
    obtain ⟨y, hy⟩ : ∃ y, owP n ow (a / 16) = y := ⟨_, rfl⟩
    rw [hy] at hp e1
    clear h hy
    go_enter Tryz.func166, Tryz.ntmps166
    go_wp2_with fail
    refine hp.mono ?_
    rintro e w1 ⟨rfl, rfl⟩
    clear hp
    go_wp2
    go_ret
    exact ⟨by rw [e1.out]; rfl, rfl⟩
end Go.Proofs.YtcenagpkfimkbaaGreatDoor
/-
  owner.Map: Set.
-/
namespace Go.Proofs.YtcenagpkfimkbaaGreatDoor
open Go Go.RowKit

def owSet (ow : Nat → Int) (f k : Nat) (o : Int) : Nat → Int := fun p => if f ≤ p ∧ p < f + k then o else ow p
theorem owSet_zero (ow : Nat → Int) (f : Nat) (o : Int) : owSet ow f 0 o = ow := by funext p; unfold owSet; rw [if_neg (by omega)]
theorem owSet_succ (ow : Nat → Int) (f j : Nat) (o : Int) : (fun p => if p = f + j then o else owSet ow f j o p) = owSet ow f (j + 1) o := by
  funext p
  unfold owSet
  by_cases h : p = f + j
  · rw [if_pos h, if_pos (by omega)]
  · rw [if_neg h]
    by_cases h2 : f ≤ p ∧ p < f + j
    · rw [if_pos h2, if_pos (by omega)]
    · rw [if_neg h2, if_neg (by omega)]
def oE (n : Nat) (f k o : Int) : Int := if o < 0 then 1 else if hasB n f k = true then 0 else 8
def oW (n : Nat) (ow : Nat → Int) (f k o : Int) : Nat → Int := if oE n f k o = 0 then owSet ow f.toNat k.toNat o else ow

theorem groupRow_set (ow : Nat → Int) (q : Nat) (o : Int) : groupRow (fun p => if p = q then o else ow p) (q / 32) = (groupRow ow (q / 32)).set (q % 32) o := by
  apply List.ext_getElem?
  intro i
  rw [List.getElem?_set]
  simp only [groupRow, List.length_map, List.length_range, List.getElem?_map]
  by_cases hi : i < 32
  · rw [List.getElem?_range hi]
    by_cases e : q % 32 = i
    · rw [if_pos e, if_pos (by omega)]
      simp only [Option.map_some, Option.some.injEq]
      rw [if_pos (by omega)]
    · rw [if_neg e]
      simp only [Option.map_some, Option.some.injEq]
      rw [if_neg (by omega)]
  · rw [List.getElem?_eq_none (by simpa using hi)]
    by_cases e : q % 32 = i
    · omega
    · rw [if_neg e]; rfl
theorem groupRow_other (ow : Nat → Int) (q k : Nat) (o : Int) (h : k ≠ q / 32) : groupRow (fun p => if p = q then o else ow p) k = groupRow ow k := by
  unfold groupRow
  apply List.map_congr_left
  intro i hi
  rw [List.mem_range] at hi
  show (if 32 * k + i = q then o else ow (32 * k + i)) = ow (32 * k + i)
  rw [if_neg (by omega)]
theorem OwnerAt.store {w : World} {ob om : Nat} {gm : IM Nat} {n : Nat} {ow : Nat → Int} (h : OwnerAt w ob om gm n ow) {q b : Nat} (hq : lk gm ((q / 32 : Nat) : Int) = some b) (o : Int) :
    OwnerAt (w.setCell ⟨b, q % 32, none⟩ (.int .i64 o)) ob om gm n (fun p => if p = q then o else ow p) := by
  have hap := h.apart
  have hm : Moved (fun k => k = b) w (w.setCell ⟨b, q % 32, none⟩ (.int .i64 o)) := Moved.of_set (S := fun k => k = b) w b _ _ rfl
  refine ⟨hm.heap h.blk (fun e => (hap.2 _ _ hq).1 e.symm), h.map.moved hm (fun e => (hap.2 _ _ hq).2 e.symm), fun k c hk => ⟨(h.grp k c hk).1, (h.grp k c hk).2.1, ?_⟩, h.inj, fun k hk i hi => ?_, h.len⟩
  · have h0 := (h.grp k c hk).1
    by_cases e : c = b
    · subst e
      have hkq := h.inj _ _ _ hk hq
      subst hkq
      have := heap_set (h.grp _ _ hk).2.2 (q % 32) (.int .i64 o)
      rw [Int.toNat_natCast] at this ⊢
      rw [this, groupRow_set]
      simp [ints, List.map_set]
    · rw [groupRow_other _ _ _ _ (fun e2 => e (by rw [show k = ((q / 32 : Nat) : Int) by omega, hq] at hk; cases hk; rfl))]
      exact hm.heap (h.grp k c hk).2.2 e
  · show (if 32 * k + i = q then o else ow (32 * k + i)) = 0
    rw [if_neg]
    · exact h.zero k hk i hi
    · intro e
      have : k = q / 32 := by omega
      subst this
      rw [hk] at hq
      cases hq
theorem groupRow_zero {ow : Nat → Int} {k : Nat} (h : ∀ i, i < 32 → ow (32 * k + i) = 0) : groupRow ow k = List.replicate 32 0 := by
  apply List.ext_getElem?
  intro i
  simp only [groupRow, List.getElem?_map, List.getElem?_replicate]
  by_cases hi : i < 32
  · rw [List.getElem?_range hi, if_pos hi]
    simp [h i hi]
  · rw [List.getElem?_eq_none (by simpa using hi), if_neg hi]; rfl
/-- A group is made. -/
theorem OwnerAt.make {w w2 : World} {ob om : Nat} {gm : IM Nat} {n : Nat} {ow : Nat → Int} (h : OwnerAt w ob om gm n ow) {k : Nat} (hk : lk gm (k : Int) = none) (hk2 : k < 32) {cs : Array Value} (hc : cs = ints (List.replicate 32 0))
    (hm : MapAt .i64 3 w2 om (mput (mapV ptrV gm) (k : Int) (.pointer (some ⟨w.heap.size, 0, none⟩)))) (ht : (w.alloc (.cells cs 252)).mapTurned w2 om) : OwnerAt w2 ob om (mput gm (k : Int) w.heap.size) n ow := by
  have hap := h.apart
  have hmv : Moved (fun q => q = om) w w2 := (Moved.alloc _ w _).trans (Moved.turned ht) (fun _ e => .inl e)
  have hlt : ∀ j b, lk gm j = some b → b < w.heap.size := fun j b hj => heap_lt (h.grp j b hj).2.2
  have hnew : w2.heap[w.heap.size]? = some (.cells cs 252 (0, 0)) := (Moved.turned ht).heap (heap_alloc_eq w _) (by have := h.map.lt; omega)
  have hr := h.rising
  refine ⟨hmv.heap h.blk hap.1, by rw [← mput_mapV]; exact hm, fun j b hj => ?_, fun j i b hj hi => ?_, fun j hj i hi => ?_, h.len⟩
  · rw [lk_put hr] at hj
    split at hj
    · rename_i e
      subst e
      cases hj
      refine ⟨by omega, by omega, ?_⟩
      rw [Int.toNat_natCast, groupRow_zero (h.zero k hk), ← hc]
      exact hnew
    · exact ⟨(h.grp j b hj).1, (h.grp j b hj).2.1, hmv.heap (h.grp j b hj).2.2 (hap.2 j b hj).2⟩
  · rw [lk_put hr] at hj hi
    split at hj
    · split at hi
      · rename_i e1 e2; omega
      · cases hj; have := hlt _ _ hi; omega
    · split at hi
      · cases hi; have := hlt _ _ hj; omega
      · exact h.inj _ _ _ hj hi
  · rw [lk_put hr] at hj
    split at hj
    · cases hj
    · exact h.zero j hj i hi

theorem rising_len {α : Type} : ∀ (m : IM α) (a b : Int), Rising m → (∀ p ∈ m, a ≤ p.1 ∧ p.1 < b) → m.length ≤ (b - a).toNat
  | [], _, _, _, _ => by simp
  | x :: r, a, b, h, hb => by
    obtain ⟨h1, h2⟩ := List.pairwise_cons.1 h
    have hx := hb x (by simp)
    have := rising_len r (x.1 + 1) b h2 (fun p hp => ⟨by have := h1 p hp; omega, (hb p (by simp [hp])).2⟩)
    rw [List.length_cons]
    omega
theorem OwnerAt.gmlen {w : World} {ob om : Nat} {gm : IM Nat} {n : Nat} {ow : Nat → Int} (h : OwnerAt w ob om gm n ow) : gm.length ≤ 32 := by
  have := rising_len gm 0 32 h.rising (fun p hp => by
    have := h.grp p.1 p.2 ((lk_some h.rising).2 hp)
    exact ⟨this.1, this.2.1⟩)
  simpa using this
/-- Where Set stands. -/
structure OInv (w0 : World) (ob om : Nat) (gm0 : IM Nat) (f k : Int) (n : Nat) (W : World) (gm : IM Nat) (ow : Nat → Int) : Prop where
  o : OwnerAt W ob om gm n ow
  mv : Moved (fun q => q = ob ∨ q = om ∨ ∃ j, lk gm0 j = some q) w0 W
  g : ∀ j b, lk gm j = some b → lk gm0 j = some b ∨ w0.heap.size ≤ b
  x : W.heap[w0.heap.size]? = some (.cells #[.int .i64 f, .int .i64 k] 160 (0, 0))

set_option maxRecDepth 100000 in
set_option maxHeartbeats 2000000 in
theorem oSet_any {w : World} {ob om : Nat} {gm : IM Nat} {n : Nat} {ow : Nat → Int} (h : OwnerAt w ob om gm n ow) (f k o : Int) :
    Calls Tryz.prog 111 #[.pointer (some ⟨ob, 0, none⟩), .agg #[.int .i64 f, .int .i64 k], .int .i64 o] w fun e w' => e = .returned (.int .i64 (oE n f k o)) ∧ ∃ gm', OwnerAt w' ob om gm' n (oW n ow f k o) ∧ Moved (fun q => q = ob ∨ q = om ∨ ∃ j, lk gm j = some q) w w' ∧ ∀ j b, lk gm' j = some b → lk gm j = some b ∨ w.heap.size ≤ b := by
  have hbA : Below w.heap.size w (w.alloc (.cells #[.int .i64 f, .int .i64 k] 160)) := (Below.refl _ _).alloc (Nat.le_refl _) _
  have HI := Lib.hid (OInv.mk (k := k) (f := f) (h.later hbA) (Moved.of_below hbA _) (fun j b hj => .inl hj) (heap_alloc_eq w _))
  have hn := h.len
  have e8 : Hid (oE n f k o ≠ 0 → oW n ow f k o = ow) := Lib.hid (fun e => by rw [oW, if_neg e])
  have hne : ob ≠ w.heap.size := by have := heap_lt h.blk; omega
  have c1 : (w.alloc (.cells #[.int .i64 f, .int .i64 k] 160)).cell? ⟨ob, 1, none⟩ = some (.int .i64 n) := by
    have := heap_cell HI.out.o.blk 1
    simpa using this
  have hlt := heap_lt h.blk
  have c1' := heap_cell h.blk 1
  simp at c1'
  clear h hbA c1
  rcases (show o < 0 ∨ (0 ≤ o ∧ f < 0) ∨ (0 ≤ o ∧ 0 ≤ f ∧ k < 0) ∨ (0 ≤ o ∧ 0 ≤ f ∧ 0 ≤ k ∧ (n : Int) < f) ∨ (0 ≤ o ∧ 0 ≤ f ∧ 0 ≤ k ∧ f ≤ n ∧ n - f < k) ∨ (0 ≤ o ∧ 0 ≤ f ∧ 0 ≤ k ∧ f ≤ n ∧ k ≤ n - f) by omega) with h1 | ⟨h0, h1⟩ | ⟨h0, h1, h2⟩ | ⟨h0, h1, h2, h3⟩ | ⟨h0, h1, h2, h3, h4⟩ | ⟨h0, h1, h2, h3, h4⟩
  · have e1 : Hid (oE n f k o = 1) := Lib.hid (by rw [oE, if_pos h1])
    go_enter Tryz.func111, Tryz.ntmps111
    go_wp2
    go_ret
    exact ⟨by rw [e1.out]; rfl, gm, by rw [e8.out (by rw [e1.out]; decide)]; exact HI.out.o, HI.out.mv, HI.out.g⟩
  · have e1 : Hid (oE n f k o = 8) := Lib.hid (by rw [oE, if_neg (by omega), if_neg (by simp [hasB]; omega)])
    have d1 : decide (f < 0) = true := by simp; omega
    go_enter Tryz.func111, Tryz.ntmps111
    go_wp2
    go_quiet (fail)
    go_wp2
    go_ret
    exact ⟨by rw [e1.out]; rfl, gm, by rw [e8.out (by rw [e1.out]; decide)]; exact HI.out.o.moved (Moved.drewN (fun _ => False) _ _) id id (fun _ _ _ => id), HI.out.mv.trans (Moved.drewN (fun _ => False) _ _) (fun _ e => e.elim), HI.out.g⟩
  · have e1 : Hid (oE n f k o = 8) := Lib.hid (by rw [oE, if_neg (by omega), if_neg (by simp [hasB]; omega)])
    have d1 : decide (f < 0) = false := by simp; omega
    have d2 : decide (k < 0) = true := by simp; omega
    go_enter Tryz.func111, Tryz.ntmps111
    go_wp2
    go_quiet (fail)
    go_wp2
    go_ret
    exact ⟨by rw [e1.out]; rfl, gm, by rw [e8.out (by rw [e1.out]; decide)]; exact HI.out.o.moved (Moved.drewN (fun _ => False) _ _) id id (fun _ _ _ => id), HI.out.mv.trans (Moved.drewN (fun _ => False) _ _) (fun _ e => e.elim), HI.out.g⟩
  · have e1 : Hid (oE n f k o = 8) := Lib.hid (by rw [oE, if_neg (by omega), if_neg (by simp [hasB]; omega)])
    have d1 : decide (f < 0) = false := by simp; omega
    have d2 : decide (k < 0) = false := by simp; omega
    have d3 : decide ((n : Int) < f) = true := by simp; omega
    go_enter Tryz.func111, Tryz.ntmps111
    go_wp2
    go_quiet (fail)
    go_wp2
    go_ret
    exact ⟨by rw [e1.out]; rfl, gm, by rw [e8.out (by rw [e1.out]; decide)]; exact HI.out.o.moved (Moved.drewN (fun _ => False) _ _) id id (fun _ _ _ => id), HI.out.mv.trans (Moved.drewN (fun _ => False) _ _) (fun _ e => e.elim), HI.out.g⟩
  · have e1 : Hid (oE n f k o = 8) := Lib.hid (by rw [oE, if_neg (by omega), if_neg (by simp [hasB]; omega)])
    have d1 : decide (f < 0) = false := by simp; omega
    have d2 : decide (k < 0) = false := by simp; omega
    have d3 : decide ((n : Int) < f) = false := by simp; omega
    have d5 : IntKind.i64.wrap ((n : Int) - f) = (n : Int) - f := IntWalk.i64_in _ (by omega)
    have d4 : decide ((n : Int) - f < k) = true := by simp; omega
    go_enter Tryz.func111, Tryz.ntmps111
    go_wp2
    go_quiet (fail)
    go_wp2
    go_ret
    exact ⟨by rw [e1.out]; rfl, gm, by rw [e8.out (by rw [e1.out]; decide)]; exact HI.out.o.moved (Moved.drewN (fun _ => False) _ _) id id (fun _ _ _ => id), HI.out.mv.trans (Moved.drewN (fun _ => False) _ _) (fun _ e => e.elim), HI.out.g⟩
  · have e1 : Hid (oE n f k o = 0) := Lib.hid (by rw [oE, if_neg (by omega), if_pos (by simp [hasB]; omega)])
    have e2 : Hid (oW n ow f k o = owSet ow f.toNat k.toNat o) := Lib.hid (by rw [oW, if_pos e1.out])
    have d1 : decide (f < 0) = false := by simp; omega
    have d2 : decide (k < 0) = false := by simp; omega
    have d3 : decide ((n : Int) < f) = false := by simp; omega
    have d5 : IntKind.i64.wrap ((n : Int) - f) = (n : Int) - f := IntWalk.i64_in _ (by omega)
    have d4 : decide ((n : Int) - f < k) = false := by simp; omega
    go_enter Tryz.func111, Tryz.ntmps111
    go_wp2
    go_quiet (fail)
    go_wp2
    clear d1 d2 d3 d4 d5
    obtain ⟨f, rfl⟩ := Int.eq_ofNat_of_zero_le h1
    obtain ⟨k, rfl⟩ := Int.eq_ofNat_of_zero_le h2
    simp only [Int.toNat_natCast] at e2
    have hfk : f + k ≤ n := by omega
    clear c1'
    go_loopw [7] (fun a wr => ∃ j : Nat, j ≤ k ∧ a = .int .i64 ((f + j : Nat) : Int) ∧ Hid (∃ gm', OInv w ob om gm f k n wr gm' (owSet ow f j o))) (fun a _ => f + k - (intOf a).toNat)
    case atStart => exact ⟨0, Nat.zero_le _, rfl, Lib.hid ⟨gm, by rw [owSet_zero]; exact ⟨HI.out.o.moved (Moved.drewN (fun _ => False) _ _) id id (fun _ _ _ => id), HI.out.mv.trans (Moved.drewN (fun _ => False) _ _) (fun _ e => e.elim), HI.out.g, HI.out.x⟩⟩⟩
    case round =>
      obtain ⟨j, hj, rfl, HV⟩ := hrel
      obtain ⟨gm', hV⟩ := HV.out
      have HV2 := Lib.hid hV
      have hx0 := heap_cell hV.x 0
      have hx1 := heap_cell hV.x 1
      simp only [List.getElem?_toArray, List.getElem?_cons_zero, List.getElem?_cons_succ] at hx0 hx1
      obtain ⟨q, hq⟩ : ∃ x, f + j = x := ⟨_, rfl⟩
      rw [hq]
      have i8 : (f : Int) + (k : Int) ≤ 20000 := by omega
      by_cases hlt : j < k
      · have i2 : (q : Int) < (f : Int) + (k : Int) := by omega
        have c0 := heap_cell hV.o.blk 0
        simp at c0
        obtain ⟨m, hm⟩ : ∃ m, q % 32 = m := ⟨_, rfl⟩
        have y1 : (q : Int) % 32 = (m : Int) := by omega
        have y2 : (m : Int) < 32 := by omega
        obtain ⟨d, hd⟩ : ∃ d, q / 32 = d := ⟨_, rfl⟩
        have y3 : (q : Int) / 32 = (d : Int) := by omega
        have hl := look_group hV.o.map (d : Int) (by omega) (by omega)
        have HQ := Lib.hid (And.intro hq (And.intro hm hd))
        cases hg : lk gm' (d : Int) with
        | some b =>
          have hb := (hV.o.grp _ b hg).2.2
          have cg := heap_cell hb m
          have dg := heap_free hb m
          rw [groupRow_at _ _ _ (by omega)] at cg
          obtain ⟨v, hv⟩ : ∃ v, owSet ow f j o (32 * (d : Int).toNat + m) = v := ⟨_, rfl⟩
          rw [hv] at cg
          rw [hg] at hl
          simp only [Option.map_some] at hl
          have hst := hV.o.store (q := q) (by rw [hd]; exact hg) o
          rw [hm, ← hq, owSet_succ] at hst
          have hmm : Moved (fun q => q = b) wr (wr.setCell ⟨b, m, none⟩ (.int .i64 o)) := Moved.of_set (S := fun q => q = b) wr b m _ rfl
          have hxb : w.heap.size ≠ b := heap_ne hV.x hb (by simp [ints])
          have HN : Hid (OInv w ob om gm f k n (wr.setCell ⟨b, m, none⟩ (.int .i64 o)) gm' (owSet ow f (j + 1) o)) := Lib.hid ⟨hst, hV.mv.trans hmm (fun q e => by subst e; exact (hV.g _ _ hg).imp_left (fun h => .inr (.inr ⟨_, h⟩))), hV.g, hmm.heap hV.x hxb⟩
          clear hV hg hb hv hm hd hq hst hmm hxb
          go_wp2
          go_roundw
          case rel => exact ⟨j + 1, by omega, by rw [← HQ.out.1]; simp; omega, Lib.hid ⟨gm', HN.out⟩⟩
          case measure => simp [intOf]; omega
        | none =>
          rw [hg] at hl
          simp only [Option.map_none] at hl
          have hd32 : d < 32 := by omega
          have hbz : Below wr.heap.size wr (wr.alloc (.cells #[.int .i64 0, .int .i64 0, .int .i64 0, .int .i64 0, .int .i64 0, .int .i64 0, .int .i64 0, .int .i64 0, .int .i64 0, .int .i64 0, .int .i64 0, .int .i64 0, .int .i64 0, .int .i64 0, .int .i64 0, .int .i64 0, .int .i64 0, .int .i64 0, .int .i64 0, .int .i64 0, .int .i64 0, .int .i64 0, .int .i64 0, .int .i64 0, .int .i64 0, .int .i64 0, .int .i64 0, .int .i64 0, .int .i64 0, .int .i64 0, .int .i64 0, .int .i64 0] 252)) := (Below.refl _ _).alloc (Nat.le_refl _) _
          obtain ⟨w3, hr3, hm3, ht3⟩ := (hV.o.map.later hbz).store Tryz.underlying3 Tryz.underlying182 (by rw [mapV_length]; have := hV.o.gmlen; unfold maxLen; omega) (d : Int) (.pointer (some ⟨wr.heap.size, 0, none⟩)) (wf_i64 (by omega) (by omega))
          have hmk := hV.o.make hg hd32 (by simp [ints]) hm3 ht3
          have hm13 : Moved (fun q => q = om) wr w3 := (Moved.of_below hbz _).trans (Moved.turned ht3) (fun _ e => .inl e)
          have hr := hV.o.rising
          have hst := hmk.store (q := q) (b := wr.heap.size) (by rw [hd, lk_put hr, if_pos rfl]) o
          rw [hm, ← hq, owSet_succ] at hst
          have hxo : w.heap.size ≠ om := by
            obtain ⟨es, clock, hh⟩ := hV.o.map.block
            exact heap_ne hV.x hh (by simp)
          have hx3 := hm13.heap hV.x hxo
          have hgb := (hmk.grp (d : Int) wr.heap.size (by rw [lk_put hr, if_pos rfl])).2.2
          have cg := heap_cell hgb m
          have dg := heap_free hgb m
          rw [groupRow_at _ _ _ (by omega)] at cg
          obtain ⟨v, hv⟩ : ∃ v, owSet ow f j o (32 * (d : Int).toNat + m) = v := ⟨_, rfl⟩
          rw [hv] at cg
          have hwl := hV.mv.size
          have hmm : Moved (fun q => q = wr.heap.size) w3 (w3.setCell ⟨wr.heap.size, m, none⟩ (.int .i64 o)) := Moved.of_set (S := fun q => q = wr.heap.size) w3 _ m _ rfl
          have hxs := heap_lt hV.x
          have HN : Hid (OInv w ob om gm f k n (w3.setCell ⟨wr.heap.size, m, none⟩ (.int .i64 o)) (mput gm' (d : Int) wr.heap.size) (owSet ow f (j + 1) o)) := Lib.hid ⟨hst, (hV.mv.trans hm13 (fun q e => .inl (.inr (.inl e)))).trans hmm (fun q e => .inr (by omega)), fun a b hab => by
              rw [lk_put hr] at hab
              split at hab
              · cases hab; exact .inr hwl
              · exact hV.g a b hab, hmm.heap hx3 (by omega)⟩
          have hoz : ob < wr.heap.size := heap_lt hV.o.blk
          have hoz2 : ¬ wr.heap.size = ob := by omega
          have c0z := (hbz.cell (p := ⟨ob, 0, none⟩) hoz).trans c0
          clear hV hg hd32 hbz hm3 ht3 hmk hm13 hr hst hxo hx3 hgb hv hwl hmm hxs hm hd hq
          go_wp2
          go_roundw
          case rel => exact ⟨j + 1, by omega, by rw [← HQ.out.1]; simp; omega, Lib.hid ⟨_, HN.out⟩⟩
          case measure => simp [intOf]; omega
      · obtain rfl : j = k := by omega
        have i2 : ¬ (q : Int) < (f : Int) + (j : Int) := by omega
        clear hV hq
        go_wp2
        go_ret
        exact ⟨by rw [e1.out]; rfl, gm', by rw [e2.out]; exact HV2.out.o, HV2.out.mv, HV2.out.g⟩
end Go.Proofs.YtcenagpkfimkbaaGreatDoor
/-
  plan.Plan: what it is in the model; New, Left, Need, Place.
-/
namespace Go.Proofs.YtcenagpkfimkbaaGreatDoor
open Go Go.RowKit

/-- plan.nowhere, as the program's text lays it. -/
def Nw (w : World) : Prop := w.cell? ⟨0, 0, none⟩ = some (.int .i64 (-1)) ∧ w.cell? ⟨0, 1, none⟩ = some (.int .i64 16)
theorem Nw.lt {w : World} (h : Nw w) : 0 < w.heap.size := cell_lt h.1
theorem Nw.moved {w w' : World} {T : Nat → Prop} (h : Nw w) (hm : Moved T w w') (ht : ¬ T 0) : Nw w' := ⟨hm.cell h.1 ht, hm.cell h.2 ht⟩
theorem Nw.later {w w' : World} (h : Nw w) (hb : Below w.heap.size w w') : Nw w' := h.moved (Moved.of_below hb (fun _ => False)) id

/-- At block b lies a plan: a page, how many of its words are used. -/
def PlanAt (w : World) (b : Nat) (pg us : Int) : Prop := w.heap[b]? = some (.cells #[.int .i64 pg, .int .i64 us] 279 (0, 0)) ∧ 0 ≤ us ∧ us ≤ 16
theorem PlanAt.moved {w w' : World} {b : Nat} {pg us : Int} {T : Nat → Prop} (h : PlanAt w b pg us) (hm : Moved T w w') (ht : ¬ T b) : PlanAt w' b pg us := ⟨hm.heap h.1 ht, h.2⟩
theorem PlanAt.later {w w' : World} {b : Nat} {pg us : Int} (h : PlanAt w b pg us) (hb : Below w.heap.size w w') : PlanAt w' b pg us := h.moved (Moved.of_below hb (fun _ => False)) id

theorem plNew_any (w : World) (hN : Nw w) : Calls Tryz.prog 152 #[] w fun e w' => e = .returned (.pointer (some ⟨w.heap.size, 0, none⟩)) ∧ Below w.heap.size w w' ∧ PlanAt w' w.heap.size (-1) 16 := by
  obtain ⟨h0, h1⟩ := hN
  go_enter Tryz.func152, Tryz.ntmps152
  go_wp2
  go_ret
  exact ⟨rfl, (Below.refl _ _).alloc (Nat.le_refl _) _, heap_alloc_eq _ _, by omega, by omega⟩

theorem plLeft_any {b : Nat} {pg us : Int} {w : World} (h : PlanAt w b pg us) :
    Calls Tryz.prog 214 #[.pointer (some ⟨b, 0, none⟩)] w fun e w' => e = .returned (.int .i64 (16 - us)) ∧ w' = w := by
  have c1 := heap_cell h.1 1
  simp at c1
  obtain ⟨_, h0, h1⟩ := h
  go_enter Tryz.func214, Tryz.ntmps214
  go_wp2
  go_ret
  exact ⟨rfl, rfl⟩

/-- How many pages of its own a thing takes; the error's number. -/
def plN (pg us s : Int) : Int := if s < 1 ∨ 16384 < s then 0 else if 16 < s then (s + 15) / 16 else if ¬ (pg = -1 ∧ us = 16) ∧ s ≤ 16 - us then 0 else 1
def plE (s : Int) : Int := if s < 1 ∨ 16384 < s then 1 else 0

theorem run_neSpot (a b c d : Int) (w : World) : (binOp .neq 277 (.agg #[.int .i64 a, .int .i64 b]) (.agg #[.int .i64 c, .int .i64 d])).run Tryz.prog w = .ok (.bool (!decide (a = c ∧ b = d))) w := by
  by_cases h1 : a = c
  · by_cases h2 : b = d
    · simp [h1, h2, go_sem]
    · simp [h1, h2, go_sem]
  · simp [h1, go_sem]

set_option maxRecDepth 100000 in
set_option maxHeartbeats 1000000 in
theorem plNeed_any {b : Nat} {pg us : Int} {w : World} (h : PlanAt w b pg us) (hN : Nw w) (s : Int) :
    Calls Tryz.prog 190 #[.pointer (some ⟨b, 0, none⟩), .int .i64 s] w fun e w' => e = .returned (.tuple #[.int .i64 (plN pg us s), .int .i64 (plE s)]) ∧ ∃ q, w' = w.drewN q := by
  have hL : ∀ q, Calls Tryz.prog 214 #[.pointer (some ⟨b, 0, none⟩)] (w.drewN q) fun e w' => e = .returned (.int .i64 (16 - us)) ∧ w' = w.drewN q := fun q => plLeft_any (h.moved (Moved.drewN (fun _ => False) w q) id)
  have HL := Lib.hid hL
  have c0 := heap_cell h.1 0
  have c1 := heap_cell h.1 1
  simp at c0 c1
  obtain ⟨_, h0, h1⟩ := h
  obtain ⟨n0, n1⟩ := hN
  clear hL
  by_cases k1 : s < 1
  · have e1 : Hid (plN pg us s = 0) := Lib.hid (by rw [plN, if_pos (.inl k1)])
    have e2 : Hid (plE s = 1) := Lib.hid (by rw [plE, if_pos (.inl k1)])
    clear c0 c1 n0 n1
    go_enter Tryz.func190, Tryz.ntmps190
    go_wp2
    go_ret2
    exact ⟨by rw [e1.out, e2.out]; rfl, 0, rfl⟩
  by_cases k2 : 16384 < s
  · have e1 : Hid (plN pg us s = 0) := Lib.hid (by rw [plN, if_pos (.inr k2)])
    have e2 : Hid (plE s = 1) := Lib.hid (by rw [plE, if_pos (.inr k2)])
    clear c0 c1 n0 n1
    go_enter Tryz.func190, Tryz.ntmps190
    go_wp2
    go_ret2
    exact ⟨by rw [e1.out, e2.out]; rfl, 0, rfl⟩
  have e2 : Hid (plE s = 0) := Lib.hid (by rw [plE, if_neg (by omega)])
  by_cases k3 : 16 < s
  · have e1 : Hid (plN pg us s = (s + 15) / 16) := Lib.hid (by rw [plN, if_neg (by omega), if_pos k3])
    have y1 : s + 16 - 1 = s + 15 := by omega
    clear c0 c1 n0 n1
    go_enter Tryz.func190, Tryz.ntmps190
    go_wp2
    go_ret2
    exact ⟨by rw [e1.out, e2.out]; rfl, 0, rfl⟩
  have hne := fun w => run_neSpot pg us (-1) 16 w
  by_cases k4 : pg = -1 ∧ us = 16
  · have e1 : Hid (plN pg us s = 1) := Lib.hid (by rw [plN, if_neg (by omega), if_neg k3, if_neg (fun h => h.1 k4)])
    simp only [k4, and_self, decide_true, Bool.not_true] at hne
    obtain ⟨rfl, rfl⟩ := k4
    go_enter Tryz.func190, Tryz.ntmps190
    go_wp2
    go_quiet (fail)
    go_wp2
    go_ret2
    exact ⟨by rw [e1.out, e2.out]; rfl, _, rfl⟩
  · simp only [k4, decide_false, Bool.not_false] at hne
    by_cases k5 : s ≤ 16 - us
    · have e1 : Hid (plN pg us s = 0) := Lib.hid (by rw [plN, if_neg (by omega), if_neg k3, if_pos ⟨k4, k5⟩])
      clear k4
      go_enter Tryz.func190, Tryz.ntmps190
      go_wp2
      go_quiet ((go_at_call 214; exact Calls.quiet_of_same (HL.out _)))
      go_wp2
      go_ret2
      exact ⟨by rw [e1.out, e2.out]; rfl, _, rfl⟩
    · have e1 : Hid (plN pg us s = 1) := Lib.hid (by rw [plN, if_neg (by omega), if_neg k3, if_neg (fun h => k5 h.2)])
      clear k4
      go_enter Tryz.func190, Tryz.ntmps190
      go_wp2
      go_quiet ((go_at_call 214; exact Calls.quiet_of_same (HL.out _)))
      go_wp2
      go_ret2
      exact ⟨by rw [e1.out, e2.out]; rfl, _, rfl⟩
end Go.Proofs.YtcenagpkfimkbaaGreatDoor
/-
  plan.Plan: Place.
-/
namespace Go.Proofs.YtcenagpkfimkbaaGreatDoor
open Go Go.RowKit

/-- Where a thing is placed; the plan then. -/
def plA (pg us s page : Int) : Int := if 16 < s then page * 16 else if plN pg us s = 0 then pg * 16 + us else page * 16
def plP (pg us s page : Int) : Int := if 16 < s then pg else if plN pg us s = 0 then pg else page
def plU (pg us s : Int) : Int := if 16 < s then us else if plN pg us s = 0 then us + s else s

theorem plN_pos {pg us s : Int} (h1 : 1 ≤ s) (h2 : s ≤ 16384) (h3 : 16 < s) : plN pg us s = (s + 15) / 16 := by rw [plN, if_neg (by omega), if_pos h3]
theorem plN_small {pg us s : Int} (h1 : 1 ≤ s) (h3 : ¬ 16 < s) : plN pg us s = 0 ∨ plN pg us s = 1 := by
  rw [plN, if_neg (by omega), if_neg h3]
  split
  · exact .inl rfl
  · exact .inr rfl
theorem plN_fit {pg us s : Int} (h1 : 1 ≤ s) (h3 : ¬ 16 < s) (h : plN pg us s = 0) : s ≤ 16 - us := by
  rw [plN, if_neg (by omega), if_neg h3] at h
  split at h
  · rename_i h'; exact h'.2
  · cases h

set_option maxRecDepth 100000 in
set_option maxHeartbeats 1000000 in
theorem plPlace_any {b : Nat} {pg us : Int} {w : World} (h : PlanAt w b pg us) (hN : Nw w) (hg0 : -1 ≤ pg) (hg1 : pg ≤ 1024) (s page : Int) (s0 : 1 ≤ s) (s1 : s ≤ 16384) (p0 : 0 ≤ page) (p1 : page ≤ 1024) :
    Calls Tryz.prog 192 #[.pointer (some ⟨b, 0, none⟩), .int .i64 s, .int .i64 page] w fun e w' => e = .returned (.tuple #[.int .i64 (plA pg us s page), .int .i64 0]) ∧ Moved (fun q => q = b) w w' ∧ PlanAt w' b (plP pg us s page) (plU pg us s) := by
  have hD := plNeed_any h hN s
  have e0 : plE s = 0 := by rw [plE, if_neg (by omega)]
  rw [e0] at hD
  have H := Lib.hid h
  by_cases k3 : 16 < s
  · have e1 : Hid (plA pg us s page = page * 16) := Lib.hid (by rw [plA, if_pos k3])
    have e2 : Hid (plP pg us s page = pg ∧ plU pg us s = us) := Lib.hid (by rw [plP, plU, if_pos k3, if_pos k3]; exact ⟨rfl, rfl⟩)
    rw [plN_pos s0 s1 k3] at hD
    have y1 : 0 < (s + 15) / 16 := by omega
    obtain ⟨n, hn⟩ : ∃ n, (s + 15) / 16 = n := ⟨_, rfl⟩
    rw [hn] at hD y1
    clear h e0 hn
    go_enter Tryz.func192, Tryz.ntmps192
    go_wp2_with fail
    refine hD.mono ?_
    rintro e w1 ⟨rfl, q, rfl⟩
    clear hD
    go_wp2
    go_ret2
    exact ⟨by rw [e1.out]; rfl, Moved.drewN _ _ _, by rw [e2.out.1, e2.out.2]; exact H.out.moved (Moved.drewN (fun _ => False) w q) id⟩
  rcases plN_small (pg := pg) (us := us) s0 k3 with hz | hz
  · have hfit := plN_fit s0 k3 hz
    have e1 : Hid (plA pg us s page = pg * 16 + us) := Lib.hid (by rw [plA, if_neg k3, if_pos hz])
    have e2 : Hid (plP pg us s page = pg ∧ plU pg us s = us + s) := Lib.hid (by rw [plP, plU, if_neg k3, if_neg k3, if_pos hz, if_pos hz]; exact ⟨rfl, rfl⟩)
    rw [hz] at hD
    obtain ⟨hb, hu0, hu1⟩ := h
    have y1 : IntKind.i64.wrap (pg * 16) = pg * 16 := by rw [IntKind.wrap_i64]; omega
    have y2 : IntKind.i64.wrap (pg * 16 + us) = pg * 16 + us := by rw [IntKind.wrap_i64]; omega
    have y3 : IntKind.i64.wrap (us + s) = us + s := by rw [IntKind.wrap_i64]; omega
    clear e0 hz
    go_enter Tryz.func192, Tryz.ntmps192
    go_wp2_with fail
    refine hD.mono ?_
    rintro e w1 ⟨rfl, q, hq⟩
    have hb1 : w1.heap[b]? = some (.cells #[.int .i64 pg, .int .i64 us] 279 (0, 0)) := by rw [hq]; exact hb
    have c0 := heap_cell hb1 0
    have c1 := heap_cell hb1 1
    have d1 := heap_free hb1 1
    simp only [List.getElem?_toArray, List.getElem?_cons_zero, List.getElem?_cons_succ] at c0 c1
    have HQ := Lib.hid (And.intro hq hb1)
    clear hD hb1 hb hq
    go_wp2
    go_quiet (fail)
    go_wp2
    go_ret2
    have hm : Moved (fun q => q = b) w ((w1.drewN nq).setCell ⟨b, 1, none⟩ (.int .i64 (us + s))) := by
      rw [HQ.out.1]
      exact ((Moved.drewN _ _ _).trans (Moved.drewN (fun q => q = b) _ _) (fun _ e => .inl e)).trans (Moved.of_set (S := fun q => q = b) _ b 1 _ rfl) (fun _ e => .inl e)
    refine ⟨by rw [e1.out]; rfl, hm, ?_⟩
    rw [e2.out.1, e2.out.2]
    have h9 : (w1.drewN nq).heap[b]? = some (.cells #[.int .i64 pg, .int .i64 us] 279 (0, 0)) := HQ.out.2
    exact ⟨by simpa using heap_set h9 1 (.int .i64 (us + s)), by omega, by omega⟩
  · have e1 : Hid (plA pg us s page = page * 16) := Lib.hid (by rw [plA, if_neg k3, if_neg (by omega)])
    have e2 : Hid (plP pg us s page = page ∧ plU pg us s = s) := Lib.hid (by rw [plP, plU, if_neg k3, if_neg k3, if_neg (by omega), if_neg (by omega)]; exact ⟨rfl, rfl⟩)
    rw [hz] at hD
    obtain ⟨hb, hu0, hu1⟩ := h
    have y1 : IntKind.i64.wrap (page * 16) = page * 16 := by rw [IntKind.wrap_i64]; omega
    have k4 : s ≤ 16 := by omega
    clear e0 hz
    go_enter Tryz.func192, Tryz.ntmps192
    go_wp2_with fail
    refine hD.mono ?_
    rintro e w1 ⟨rfl, q, hq⟩
    have hb1 : w1.heap[b]? = some (.cells #[.int .i64 pg, .int .i64 us] 279 (0, 0)) := by rw [hq]; exact hb
    have c0 := heap_cell hb1 0
    have c1 := heap_cell hb1 1
    have d0 := heap_free hb1 0
    have d1 := heap_free hb1 1
    simp only [List.getElem?_toArray, List.getElem?_cons_zero, List.getElem?_cons_succ] at c0 c1
    have HQ := Lib.hid (And.intro hq hb1)
    clear hD hb1 hb hq
    go_wp2
    have hb2 : ((w1.setCell ⟨b, 0, none⟩ (.int .i64 page)).setCell ⟨b, 1, none⟩ (.int .i64 0)).heap[b]? = some (.cells #[.int .i64 page, .int .i64 0] 279 (0, 0)) := by
      simpa using heap_set (heap_set HQ.out.2 0 (.int .i64 page)) 1 (.int .i64 0)
    have hm2 : Moved (fun q => q = b) w ((w1.setCell ⟨b, 0, none⟩ (.int .i64 page)).setCell ⟨b, 1, none⟩ (.int .i64 0)) := by
      rw [HQ.out.1]
      exact ((Moved.drewN _ _ _).trans (Moved.of_set (S := fun q => q = b) _ b 0 _ rfl) (fun _ e => .inl e)).trans (Moved.of_set (S := fun q => q = b) _ b 1 _ rfl) (fun _ e => .inl e)
    have HM := Lib.hid (And.intro hb2 hm2)
    clear hb2 hm2 c0 c1 d0 d1
    generalize hW2 : World.setCell (World.setCell _ _ _) _ _ = w2
    rw [hW2] at HM
    clear hW2
    have c0 := heap_cell HM.out.1 0
    have c1 := heap_cell HM.out.1 1
    have d1 := heap_free HM.out.1 1
    simp only [List.getElem?_toArray, List.getElem?_cons_zero, List.getElem?_cons_succ] at c0 c1
    go_quiet (fail)
    go_wp2
    go_ret2
    refine ⟨by rw [e1.out]; simp, (HM.out.2.trans (Moved.drewN (fun q => q = b) _ _) (fun _ e => .inl e)).trans (Moved.of_set (S := fun q => q = b) _ b 1 _ rfl) (fun _ e => .inl e), ?_⟩
    rw [e2.out.1, e2.out.2]
    have h9 : (w2.drewN nq).heap[b]? = some (.cells #[.int .i64 page, .int .i64 0] 279 (0, 0)) := HM.out.1
    exact ⟨by simpa using heap_set h9 1 (.int .i64 s), by omega, by omega⟩
end Go.Proofs.YtcenagpkfimkbaaGreatDoor
/-
  arena.Arena: what it is in the model; New, Runs, Things.
-/
namespace Go.Proofs.YtcenagpkfimkbaaGreatDoor
open Go Go.RowKit

/-- A row of runs, cell by cell. -/
def runCells (rs : List (Int × Int)) : List Value := rs.flatMap fun p => [.int .i64 p.1, .int .i64 p.2]
theorem runCells_snoc (rs : List (Int × Int)) (f k : Int) : runCells (rs ++ [(f, k)]) = runCells rs ++ [.int .i64 f, .int .i64 k] := by simp [runCells]
theorem runCells_len (rs : List (Int × Int)) : (runCells rs).length = rs.length * 2 := by
  induction rs with
  | nil => rfl
  | cons p r ih =>
    have e : runCells (p :: r) = .int .i64 p.1 :: .int .i64 p.2 :: runCells r := rfl
    rw [e, List.length_cons, List.length_cons, List.length_cons, ih]
    omega
theorem runCells_at : ∀ (rs : List (Int × Int)) (i : Nat), i < rs.length → (runCells rs)[i * 2]? = some (.int .i64 (rs.getD i (0, 0)).1) ∧ (runCells rs)[i * 2 + 1]? = some (.int .i64 (rs.getD i (0, 0)).2)
  | [], i, h => by simp at h
  | (f, k) :: r, 0, _ => ⟨rfl, rfl⟩
  | (f, k) :: r, i + 1, h => by
    have ih := runCells_at r i (by simpa using h)
    have e : runCells ((f, k) :: r) = .int .i64 f :: .int .i64 k :: runCells r := rfl
    rw [e, show (i + 1) * 2 = i * 2 + 1 + 1 by omega]
    simpa using ih
theorem runCells_one (rs : List (Int × Int)) : ∀ u ∈ runCells rs, u.oneCell' = true := by
  intro u hu
  simp only [runCells, List.mem_flatMap] at hu
  obtain ⟨p, _, hu⟩ := hu
  simp at hu
  rcases hu with rfl | rfl <;> rfl
theorem info_run : (Tryz.prog.info? 160).map (fun i => (i.zero.map (fun z => z.cells.size), i.size, i.bytes)) = some (some 2, 2, 16) := by kernel_rfl
theorem info_run_ex : ∃ i0 z0, Tryz.prog.info? 160 = some i0 ∧ i0.zero = some z0 ∧ z0.cells.size = 2 ∧ i0.size = 2 ∧ i0.bytes = 16 := by
  have h := info_run
  cases hi : Tryz.prog.info? 160 with
  | none => rw [hi] at h; cases h
  | some i0 =>
    rw [hi] at h
    simp at h
    obtain ⟨⟨z, hz, h1⟩, h2, h3⟩ := h
    exact ⟨i0, z, rfl, hz, h1, h2, h3⟩
/-- A row of runs that is owned. -/
def OwnRuns (w : World) (v : Value) (rs : List (Int × Int)) : Prop := w.ownsRow 0 160 2 v rs.length (runCells rs)
theorem OwnRuns.moved {w w' : World} {v : Value} {rs : List (Int × Int)} {T : Nat → Prop} (h : OwnRuns w v rs) (hm : Moved T w w') (ht : ∀ k, v.ownBlock = some k → ¬ T k) : OwnRuns w' v rs := hm.owns h ht
theorem OwnRuns.block {w : World} {v : Value} {rs : List (Int × Int)} (h : OwnRuns w v rs) {k : Nat} (hk : v.ownBlock = some k) : ∃ cs, w.heap[k]? = some (.cells cs 160 (0, 0)) := by
  rcases h.2 with ⟨rfl, _⟩ | ⟨g, cap, cur, rfl, _, hg, _⟩
  · simp [Value.ownBlock] at hk
  · obtain rfl : g = k := by simpa [Value.ownBlock] using hk
    exact ⟨cur, hg⟩
theorem OwnRuns.shape {w : World} {v : Value} {rs : List (Int × Int)} (h : OwnRuns w v rs) : ∃ a c, v = .slice a rs.length c ∧ rs.length ≤ c ∧ (a = none → rs = [] ∧ c = 0) ∧ ∀ q, a = some q → ∃ g, q = ⟨g, 0, none⟩ ∧ v.ownBlock = some g := by
  rcases h.2 with ⟨rfl, h0⟩ | ⟨g, cap, cur, rfl, _, hg, hn, _⟩
  · exact ⟨none, 0, by rw [h0], by omega, fun _ => ⟨List.length_eq_zero_iff.1 h0, rfl⟩, (fun q e => by cases e)⟩
  · exact ⟨some ⟨g, 0, none⟩, cap, rfl, hn, (fun e => by cases e), fun q e => ⟨g, by cases e; rfl, rfl⟩⟩
/-- Runs, as they are read. -/
def RunsR (w : World) (a : Option Addr) (rs : List (Int × Int)) : Prop :=
  rs = [] ∨ ∃ b off, a = some ⟨b, off, none⟩ ∧ ∀ i, i < rs.length → w.cell? ⟨b, off + i * 2, none⟩ = some (.int .i64 (rs.getD i (0, 0)).1) ∧ w.cell? ⟨b, off + i * 2 + 1, none⟩ = some (.int .i64 (rs.getD i (0, 0)).2)
theorem OwnRuns.reads {w : World} {a : Option Addr} {n c : Nat} {rs : List (Int × Int)} (h : OwnRuns w (.slice a n c) rs) : RunsR w a rs := by
  rcases h.2 with ⟨e, h0⟩ | ⟨g, cap, cur, e, _, hg, hn, hcm, hcs, ht⟩
  · exact .inl (List.length_eq_zero_iff.1 h0)
  · cases e
    refine .inr ⟨g, 0, rfl, fun i hi => ?_⟩
    have h1 := runCells_at rs i hi
    have hc : ∀ j, j < rs.length * 2 → cur[j]? = (runCells rs)[j]? := fun j hj => by
      rw [← ht]
      simp [hj]
    rw [Nat.zero_add, heap_cell hg, heap_cell hg, hc _ (by omega), hc _ (by omega)]
    exact h1
theorem RunsR.cells {w : World} {ad : Addr} {rs : List (Int × Int)} (h : RunsR w (some ad) rs) : ∀ j u, (runCells rs)[j]? = some u → w.cell? (ad.add j) = some u := by
  intro j u hu
  have hj : j < rs.length * 2 := by
    have := (List.getElem?_eq_some_iff.1 hu).1
    rwa [runCells_len] at this
  rcases h with rfl | ⟨b, off, ha, hc⟩
  · simp at hj
  · cases ha
    have := hc (j / 2) (by omega)
    have h2 := runCells_at rs (j / 2) (by omega)
    rw [addr_add_none]
    rcases Nat.mod_two_eq_zero_or_one j with e | e
    · have e1 : j / 2 * 2 = j := by omega
      rw [e1] at this h2
      rw [this.1, ← h2.1, hu]
    · have e1 : j / 2 * 2 + 1 = j := by omega
      rw [Nat.add_assoc, e1] at this
      rw [e1] at h2
      rw [this.2, ← h2.2, hu]

/-- A call hands back a row of runs in new memory. -/
def RetRuns (rs : List (Int × Int)) (w : World) (e : Ending) (w' : World) : Prop :=
  ∃ v, e = .returned v ∧ Below w.heap.size w w' ∧ OwnRuns w' v rs ∧ ∀ k, v.ownBlock = some k → w.heap.size ≤ k

set_option maxRecDepth 100000 in
theorem CloneR_any (a : Option Addr) (rs : List (Int × Int)) (cap : Nat) (w : World) (h : RunsR w a rs) (hn : rs.length ≤ 1000000) (h0 : a = none → rs = [] ∧ cap = 0) :
    Calls Tryz.prog 135 #[.slice a rs.length cap] w (RetRuns rs w) := by
  rcases a with _ | ad
  · obtain ⟨rfl, rfl⟩ := h0 rfl
    have hq := fun w => Lib.run_eql_slice_nil (P := Tryz.prog) w 51 160 none 0 0 0 0 Tryz.underlying51
    go_enter Tryz.func135, Tryz.ntmps135
    go_wp2
    go_ret
    exact ⟨_, rfl, Below.refl _ _, World.ownsRow_nil _ _ _ _, by simp [Value.ownBlock]⟩
  · obtain ⟨i0, z0, hi, hz, hzs, his, hib⟩ := info_run_ex
    have hcs := Lib.hid (h.cells)
    have hq := fun w => Lib.run_eql_slice_nil (P := Tryz.prog) w 51 160 (some ad) rs.length cap 0 0 Tryz.underlying51
    have HI := Lib.hid (And.intro hi (And.intro hz (And.intro hzs (And.intro his hib))))
    clear hi hz hzs his hib
    go_enter Tryz.func135, Tryz.ntmps135
    go_wp2_with (at_builtin; refine wpList_append_own _ rfl _ _ 51 rfl w.heap.size 160 i0 z0 2 16 Tryz.underlying51 HI.out.1 HI.out.2.1 HI.out.2.2.2.1 HI.out.2.2.2.2 HI.out.2.2.1 (by decide) _ _ _ rfl (World.ownsRow_made w #[] 0 (Nat.le_refl _) (by decide) rfl) ad rs.length cap (runCells rs) rfl ?c0 ?c1 ?c2 ?c3 ?c4 ?c5 ?_)
    case c0 => exact runCells_len rs
    case c1 => exact fun j u hj => (cell_alloc_old _ (hcs.out j u hj))
    case c2 => exact runCells_one rs
    case c3 => unfold maxLen; omega
    case c4 => omega
    case c5 => simp
    · intro v' w1 hown' hgrow _
      go_wp2
      go_ret
      have ho : w1.ownsRow w.heap.size 160 2 v' rs.length (runCells rs) := by simpa using hown'
      refine ⟨_, rfl, ?_, ?_, fun k hk => (ho.lt k hk).1⟩
      · exact ((Below.refl _ _).alloc (Nat.le_refl _) _).grown hgrow (by simp) (fun k e => by simp [Value.ownBlock] at e; omega)
      · refine ⟨ho.1, ho.2.imp_right ?_⟩
        rintro ⟨g, cap', cur, e, _, rest⟩
        exact ⟨g, cap', cur, e, Nat.zero_le _, rest⟩

/-- At block ab lies an arena over pages pb: its plan in block plb, the runs that it took, its things. -/
structure ArenaAt (w : World) (ab plb pb : Nat) (pg us : Int) (vr vt : Value) (rs ts : List (Int × Int)) : Prop where
  blk : w.heap[ab]? = some (.cells #[.pointer (some ⟨pb, 0, none⟩), .pointer (some ⟨plb, 0, none⟩), vr, vt] 224 (0, 0))
  plan : PlanAt w plb pg us
  runs : OwnRuns w vr rs
  things : OwnRuns w vt ts
  ne : ∀ k, vr.ownBlock = some k → vt.ownBlock ≠ some k
section
variable {w w' : World} {ab plb pb : Nat} {pg us : Int} {vr vt : Value} {rs ts : List (Int × Int)}
theorem ArenaAt.moved {T : Nat → Prop} (h : ArenaAt w ab plb pb pg us vr vt rs ts) (hm : Moved T w w') (h1 : ¬ T ab) (h2 : ¬ T plb) (h3 : ∀ k, vr.ownBlock = some k → ¬ T k) (h4 : ∀ k, vt.ownBlock = some k → ¬ T k) : ArenaAt w' ab plb pb pg us vr vt rs ts :=
  ⟨hm.heap h.blk h1, h.plan.moved hm h2, h.runs.moved hm h3, h.things.moved hm h4, h.ne⟩
theorem ArenaAt.later (h : ArenaAt w ab plb pb pg us vr vt rs ts) (hb : Below w.heap.size w w') : ArenaAt w' ab plb pb pg us vr vt rs ts :=
  h.moved (Moved.of_below hb (fun _ => False)) id id (fun _ _ => id) (fun _ _ => id)
theorem ArenaAt.apart (h : ArenaAt w ab plb pb pg us vr vt rs ts) : ab ≠ plb ∧ vr.ownBlock ≠ some ab ∧ vr.ownBlock ≠ some plb ∧ vt.ownBlock ≠ some ab ∧ vt.ownBlock ≠ some plb := by
  refine ⟨heap_ne h.blk h.plan.1 (by simp), fun e => ?_, fun e => ?_, fun e => ?_, fun e => ?_⟩
  · obtain ⟨_, hc⟩ := h.runs.block e; exact heap_ne h.blk hc (by simp) rfl
  · obtain ⟨_, hc⟩ := h.runs.block e; exact heap_ne h.plan.1 hc (by simp) rfl
  · obtain ⟨_, hc⟩ := h.things.block e; exact heap_ne h.blk hc (by simp) rfl
  · obtain ⟨_, hc⟩ := h.things.block e; exact heap_ne h.plan.1 hc (by simp) rfl
end
def ArenaP (ab plb pb : Nat) (pg us : Int) (rs ts : List (Int × Int)) : HP := fun w S => ∃ vr vt, ArenaAt w ab plb pb pg us vr vt rs ts ∧ ∀ k, S k ↔ k = ab ∨ k = plb ∨ vr.ownBlock = some k ∨ vt.ownBlock = some k
theorem ArenaP.ok (ab plb pb : Nat) (pg us : Int) (rs ts : List (Int × Int)) : (ArenaP ab plb pb pg us rs ts).Ok := by
  constructor
  · rintro w w' S T ⟨vr, vt, h, hs⟩ hm hd
    exact ⟨vr, vt, h.moved hm (hd _ ((hs _).2 (by simp))) (hd _ ((hs _).2 (by simp))) (fun k e => hd _ ((hs _).2 (by simp [e]))) (fun k e => hd _ ((hs _).2 (by simp [e]))), hs⟩
  · rintro w S ⟨vr, vt, h, hs⟩ k hk
    rcases (hs k).1 hk with rfl | rfl | e | e
    · exact heap_lt h.blk
    · exact heap_lt h.plan.1
    · obtain ⟨_, hc⟩ := h.runs.block e; exact heap_lt hc
    · obtain ⟨_, hc⟩ := h.things.block e; exact heap_lt hc

theorem arNew_any (pb : Nat) (w : World) (hN : Nw w) :
    Calls Tryz.prog 104 #[.pointer (some ⟨pb, 0, none⟩)] w fun e w' => ∃ ab plb, e = .returned (.pointer (some ⟨ab, 0, none⟩)) ∧ Below w.heap.size w w' ∧ ArenaAt w' ab plb pb (-1) 16 (.slice none 0 0) (.slice none 0 0) [] [] ∧ w.heap.size ≤ ab ∧ w.heap.size ≤ plb := by
  have hp := plNew_any w hN
  clear hN
  go_enter Tryz.func104, Tryz.ntmps104
  go_wp2_with fail
  refine hp.mono ?_
  rintro e w1 ⟨rfl, hb1, hp1⟩
  have HP := Lib.hid (And.intro hb1 hp1)
  clear hp hb1 hp1
  go_wp2
  go_ret
  have hb2 : Below w1.heap.size w1 (w1.alloc (.cells #[.pointer (some ⟨pb, 0, none⟩), .pointer (some ⟨w.heap.size, 0, none⟩), .slice none 0 0, .slice none 0 0] 224)) := (Below.refl _ _).alloc (Nat.le_refl _) _
  exact ⟨_, _, rfl, HP.out.1.trans (hb2.mono HP.out.1.size), ⟨heap_alloc_eq _ _, HP.out.2.later hb2, World.ownsRow_nil _ _ _ _, World.ownsRow_nil _ _ _ _, by simp [Value.ownBlock]⟩, HP.out.1.size, Nat.le_refl _⟩

theorem arRuns_any {w : World} {ab plb pb : Nat} {pg us : Int} {vr vt : Value} {rs ts : List (Int × Int)} (h : ArenaAt w ab plb pb pg us vr vt rs ts) (hn : rs.length ≤ 1000000) :
    Calls Tryz.prog 110 #[.pointer (some ⟨ab, 0, none⟩)] w (RetRuns rs w) := by
  obtain ⟨a, c, rfl, _, h0, hs⟩ := h.runs.shape
  have c2 := heap_cell h.blk 2
  simp at c2
  have hC := CloneR_any a rs c w h.runs.reads hn h0
  clear h hs h0
  go_enter Tryz.func110, Tryz.ntmps110
  go_wp2_with fail
  refine hC.mono ?_
  rintro e w1 ⟨v, rfl, hb, ho, hl⟩
  have HO := Lib.hid (And.intro hb (And.intro ho hl))
  obtain ⟨a', c', rfl, _⟩ := ho.shape
  clear hC hb ho hl
  go_wp2
  go_ret
  exact ⟨_, rfl, HO.out⟩
theorem arThings_any {w : World} {ab plb pb : Nat} {pg us : Int} {vr vt : Value} {rs ts : List (Int × Int)} (h : ArenaAt w ab plb pb pg us vr vt rs ts) (hn : ts.length ≤ 1000000) :
    Calls Tryz.prog 87 #[.pointer (some ⟨ab, 0, none⟩)] w (RetRuns ts w) := by
  obtain ⟨a, c, rfl, _, h0, hs⟩ := h.things.shape
  have c2 := heap_cell h.blk 3
  simp at c2
  have hC := CloneR_any a ts c w h.things.reads hn h0
  clear h hs h0
  go_enter Tryz.func87, Tryz.ntmps87
  go_wp2_with fail
  refine hC.mono ?_
  rintro e w1 ⟨v, rfl, hb, ho, hl⟩
  have HO := Lib.hid (And.intro hb (And.intro ho hl))
  obtain ⟨a', c', rfl, _⟩ := ho.shape
  clear hC hb ho hl
  go_wp2
  go_ret
  exact ⟨_, rfl, HO.out⟩
end Go.Proofs.YtcenagpkfimkbaaGreatDoor
