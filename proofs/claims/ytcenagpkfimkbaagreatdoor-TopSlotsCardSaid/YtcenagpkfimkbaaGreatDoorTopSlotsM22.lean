/-
  Contracts of functions of the program, laid together.
-/
import Derived.Test.YtcenagpkfimkbaaGreatDoorTopSlotsM1
import Derived.Test.YtcenagpkfimkbaaGreatDoorTopSlotsM5
import Derived.Test.YtcenagpkfimkbaaGreatDoorTopSlotsM10
import Derived.Test.YtcenagpkfimkbaaGreatDoorTopSlotsM11
import Derived.Test.YtcenagpkfimkbaaGreatDoorTopSlotsM13
import Derived.Test.YtcenagpkfimkbaaGreatDoorTopSlotsM15
import Derived.Test.YtcenagpkfimkbaaGreatDoorTopSlotsM17
namespace Go.Proofs.YtcenagpkfimkbaaGreatDoor
open Go Go.RowKit Go.Shelf

attribute [local go_sem] Oper.semAt_some
@[local go_sem] theorem wide_fnA (f : FuncId) : Fence.wide.fn f = True := rfl
@[local go_sem] theorem wide_fnA2 (l : Nat) (f : FuncId) : (Fence.wide.inRound l).fn f = True := rfl

theorem inc_ext {l s : List Int} (h1 : l.Pairwise (fun a c => a < c)) (h2 : s.Pairwise (fun a c => a < c)) (h : ∀ x, x ∈ l ↔ x ∈ s) : l = s := by
  have hp : l.Perm s := (List.perm_ext_iff_of_nodup (h1.imp (fun h => by omega)) (h2.imp (fun h => by omega))).2 h
  exact List.Perm.eq_of_pairwise (fun a b _ _ h1 h2 => by omega) h1 h2 hp
def amongL (st : List Bool) (f t : Int) : List Int := ((List.range st.length).filter fun (i : Nat) => decide (f ≤ (i : Int) ∧ (i : Int) < t) && st.getD i false).map fun (i : Nat) => (i : Int)
theorem amongL_mem {st : List Bool} {f t x : Int} : x ∈ amongL st f t ↔ ∃ i : Nat, x = i ∧ i < st.length ∧ f ≤ x ∧ x < t ∧ st.getD i false = true := by
  unfold amongL
  simp only [List.mem_map, List.mem_filter, List.mem_range, Bool.and_eq_true, decide_eq_true_eq]
  constructor
  · rintro ⟨i, ⟨h1, ⟨h2, h3⟩, h4⟩, rfl⟩; exact ⟨i, rfl, h1, h2, h3, h4⟩
  · rintro ⟨i, rfl, h1, h2, h3, h4⟩; exact ⟨i, ⟨h1, ⟨h2, h3⟩, h4⟩, rfl⟩
theorem amongL_inc (st : List Bool) (f t : Int) : (amongL st f t).Pairwise (fun a c => a < c) := by
  unfold amongL
  rw [List.pairwise_map]
  refine List.Pairwise.filter _ ?_
  have := List.pairwise_lt_range (n := st.length)
  exact this.imp (fun h => by omega)
theorem amongL_length (st : List Bool) (f t : Int) : (amongL st f t).length ≤ st.length := by
  unfold amongL
  rw [List.length_map]
  exact Nat.le_trans (List.length_filter_le _ _) (by simp)
def clrP (st : List Bool) (pre : List Int) : List Bool := pre.foldl (fun s x => s.set x.toNat false) st
theorem clrP_snoc (st : List Bool) (pre : List Int) (x : Int) : clrP st (pre ++ [x]) = (clrP st pre).set x.toNat false := by simp [clrP]
theorem clrP_length (pre : List Int) : ∀ st : List Bool, (clrP st pre).length = st.length := by
  induction pre with
  | nil => exact fun _ => rfl
  | cons x r ih => intro st; simp only [clrP, List.foldl_cons] at ih ⊢; rw [ih]; simp
theorem clrP_get (pre : List Int) : ∀ (st : List Bool) (i : Nat), (clrP st pre).getD i false = (st.getD i false && !decide (∃ x ∈ pre, x.toNat = i)) := by
  induction pre with
  | nil => intro st i; simp [clrP]
  | cons x r ih =>
    intro st i
    have := ih (st.set x.toNat false) i
    simp only [clrP, List.foldl_cons] at this ⊢
    rw [this]
    by_cases e : x.toNat = i
    · subst e
      simp only [List.getD_eq_getElem?_getD, List.getElem?_set_self']
      cases hh : st[x.toNat]? <;> simp
    · have : (st.set x.toNat false).getD i false = st.getD i false := by simp only [List.getD_eq_getElem?_getD, List.getElem?_set_ne e]
      rw [this]
      simp [e]
def drpL (st : List Bool) (f n : Int) : List Bool := clrP st (amongL st f (f + n))
theorem drpL_has (st : List Bool) (f n : Int) (v : Int) : hasM (drpL st f n) v = (hasM st v && !decide (f ≤ v ∧ v < f + n)) := by
  unfold hasM drpL
  rw [clrP_length]
  by_cases h : 0 ≤ v ∧ v < st.length
  · rw [if_pos h, if_pos h, clrP_get]
    cases hg : st.getD v.toNat false
    · rfl
    · congr 2
      rw [decide_eq_decide]
      constructor
      · rintro ⟨x, hx, he⟩
        obtain ⟨i, rfl, h1, h2, h3, h4⟩ := amongL_mem.1 hx
        have : v = (i : Int) := by omega
        omega
      · intro hv
        exact ⟨v, amongL_mem.2 ⟨v.toNat, by omega, by omega, hv.1, hv.2, hg⟩, rfl⟩
  · rw [if_neg h, if_neg h]; rfl
theorem clr_next {st : List Bool} {f t : Int} : nextM (clrP st (amongL st f t)) t = nextM st t := by
  unfold nextM
  rw [clrP_length]
  congr 1
  funext i
  by_cases h : t ≤ (i : Int)
  · rw [clrP_get]
    have : decide (∃ x ∈ amongL st f t, x.toNat = i) = false := by
      rw [decide_eq_false_iff_not]
      rintro ⟨x, hx, he⟩
      obtain ⟨j, rfl, h1, h2, h3, h4⟩ := amongL_mem.1 hx
      omega
    rw [this]; simp
  · simp [h]
theorem next_spec {st : List Bool} {t : Int} {q : Nat} (h : nextM st t = some q) : q < st.length ∧ t ≤ q ∧ st.getD q false = true ∧ ∀ i : Nat, i < q → t ≤ i → st.getD i false = false := by
  unfold nextM at h
  rw [List.find?_range_eq_some] at h
  obtain ⟨h1, h2, h3⟩ := h
  simp only [Bool.and_eq_true, decide_eq_true_eq] at h1
  refine ⟨by simpa using h2, h1.1, h1.2, fun i hi ht => ?_⟩
  have := h3 i hi
  simp only [Bool.not_eq_true', Bool.and_eq_false_iff, decide_eq_false_iff_not] at this
  rcases this with h | h
  · exact absurd ht h
  · exact h
theorem next_no {st : List Bool} {t : Int} (h : nextM st t = none) (i : Nat) (ht : t ≤ i) : st.getD i false = false := by
  unfold nextM at h
  rw [List.find?_range_eq_none] at h
  by_cases hi : i < st.length
  · have := h i hi
    simp only [Bool.not_eq_true', Bool.and_eq_false_iff, decide_eq_false_iff_not] at this
    rcases this with h | h
    · exact absurd ht h
    · exact h
  · rw [List.getD_eq_getElem?_getD, List.getElem?_eq_none (by omega)]; rfl
theorem among_step {st : List Bool} {f t : Int} {q : Nat} (hft : f ≤ t) (h : nextM st t = some q) : amongL st f ((q : Int) + 1) = amongL st f t ++ [(q : Int)] := by
  obtain ⟨h1, h2, h3, h4⟩ := next_spec h
  refine inc_ext (amongL_inc _ _ _) ?_ fun x => ?_
  · rw [List.pairwise_append]
    refine ⟨amongL_inc _ _ _, by simp, fun a ha c hc => ?_⟩
    obtain ⟨i, rfl, _, _, h5, _⟩ := amongL_mem.1 ha
    simp only [List.mem_singleton] at hc
    omega
  · rw [List.mem_append, amongL_mem, amongL_mem, List.mem_singleton]
    constructor
    · rintro ⟨i, rfl, h5, h6, h7, h8⟩
      by_cases hi : i < q
      · by_cases ht : t ≤ (i : Int)
        · rw [h4 i hi ht] at h8; cases h8
        · exact .inl ⟨i, rfl, h5, h6, by omega, h8⟩
      · exact .inr (by omega)
    · rintro (⟨i, rfl, h5, h6, h7, h8⟩ | rfl)
      · exact ⟨i, rfl, h5, h6, by omega, h8⟩
      · exact ⟨q, rfl, h1, by omega, by omega, h3⟩
theorem among_end {st : List Bool} {f t u : Int} (htu : t ≤ u) (h : ∀ i : Nat, t ≤ i → (i : Int) < u → st.getD i false = false) : amongL st f u = amongL st f t := by
  refine inc_ext (amongL_inc _ _ _) (amongL_inc _ _ _) fun x => ?_
  rw [amongL_mem, amongL_mem]
  constructor
  · rintro ⟨i, rfl, h5, h6, h7, h8⟩
    by_cases ht : t ≤ (i : Int)
    · rw [h i ht h7] at h8; cases h8
    · exact ⟨i, rfl, h5, h6, by omega, h8⟩
  · rintro ⟨i, rfl, h5, h6, h7, h8⟩
    exact ⟨i, rfl, h5, h6, by omega, h8⟩
theorem among_nil (st : List Bool) (f : Int) : amongL st f f = [] := by
  rw [List.eq_nil_iff_forall_not_mem]
  intro x hx
  obtain ⟨i, rfl, _, h1, h2, _⟩ := amongL_mem.1 hx
  omega
theorem among_prefix (st : List Bool) (f t u : Int) (htu : t ≤ u) : amongL st f t <+: amongL st f u := by
  have h : amongL st f u = amongL st f t ++ amongL st (max f t) u := by
    refine inc_ext (amongL_inc _ _ _) ?_ fun x => ?_
    · rw [List.pairwise_append]
      refine ⟨amongL_inc _ _ _, amongL_inc _ _ _, fun a ha c hc => ?_⟩
      obtain ⟨i, rfl, _, _, h5, _⟩ := amongL_mem.1 ha
      obtain ⟨j, rfl, _, h6, _, _⟩ := amongL_mem.1 hc
      omega
    · rw [List.mem_append, amongL_mem, amongL_mem, amongL_mem]
      constructor
      · rintro ⟨i, rfl, h5, h6, h7, h8⟩
        by_cases ht : t ≤ (i : Int)
        · exact .inr ⟨i, rfl, h5, by omega, h7, h8⟩
        · exact .inl ⟨i, rfl, h5, h6, by omega, h8⟩
      · rintro (⟨i, rfl, h5, h6, h7, h8⟩ | ⟨i, rfl, h5, h6, h7, h8⟩)
        · exact ⟨i, rfl, h5, h6, by omega, h8⟩
        · exact ⟨i, rfl, h5, by omega, h7, h8⟩
  exact ⟨_, h.symm⟩

theorem samong_any (sb : Nat) (f n : Int) (w : World) : Calls Tryz.prog 157 #[.pointer (some ⟨sb, 0, none⟩), .agg #[.int .i64 f, .int .i64 n]] w fun e w' => e = .returned (.func (.func 185) #[] #[.pointer (some ⟨w.heap.size + 1, 0, none⟩), .pointer (some ⟨w.heap.size, 0, none⟩)]) ∧ w' = (w.alloc (.cells #[.pointer (some ⟨sb, 0, none⟩)] 107)).alloc (.cells #[.int .i64 f, .int .i64 n] 160) := by
  go_enter Tryz.func157, Tryz.ntmps157
  go_wp2
  go_ret
  exact ⟨rfl, rfl⟩

def AmE (sb rb : Nat) (x : Int) (args : Array Value) : HP := fun W S => args = #[.int .i64 x] ∧ W.heap[sb]? = some (.cells #[.pointer (some ⟨rb, 0, none⟩)] 186 (0, 0)) ∧ ¬ S sb
def AmPre (sb rb : Nat) (f n : Int) (Br Bs : Nat) : HP := fun W S => W.heap[Br]? = some (.cells #[.int .i64 f, .int .i64 n] 160 (0, 0)) ∧ W.heap[Bs]? = some (.cells #[.pointer (some ⟨sb, 0, none⟩)] 107 (0, 0)) ∧ W.heap[sb]? = some (.cells #[.pointer (some ⟨rb, 0, none⟩)] 186 (0, 0)) ∧ ¬ S Br ∧ ¬ S Bs ∧ ¬ S sb

set_option maxRecDepth 100000 in
set_option maxHeartbeats 4000000 in
theorem among_hands (sb rb rw : Nat) (st : List Bool) (hst : st.length ≤ 16384) (f n : Int) (hf : 0 ≤ f) (hf1 : f ≤ 1000000) (hn : 0 ≤ n) (hn1 : n ≤ 1000000) (Br Bs : Nat) :
    HandsK Tryz.prog 185 #[.pointer (some ⟨Br, 0, none⟩), .pointer (some ⟨Bs, 0, none⟩)] (AmE sb rb) (fun pre => pre <+: amongL st f (f + n)) (fun xs => xs = amongL st f (f + n)) (AmPre sb rb f n Br Bs) (fun pre W => RowAt W rb rw (clrP st pre)) := by
  intro l J Jx hJ hJx hKn hY W S h0 hP
  obtain ⟨hBr, hBs, hsb, n1, n2, n3⟩ := hP
  have r0 := heap_cell hBr 0
  have r1 := heap_cell hBr 1
  simp at r0 r1
  refine (callsIn_wide (n := 3)).1 ?_
  refine callsIn_of_wp Tryz.func185 rfl trivial ?_ rfl
  simp only [Tryz.ntmps185, List.size_toArray, List.length_cons, List.length_nil, Nat.reduceAdd, Nat.reduceSub, Array.replicate_succ, Array.replicate_zero, List.push_toArray, List.append_toArray, List.nil_append, List.cons_append]
  have HY := Lib.hid hY
  have HP := Lib.hid (And.intro hBr (And.intro hBs (And.intro hsb (And.intro n1 (And.intro n2 n3)))))
  have HJ := Lib.hid (And.intro hJ (And.intro hJx (And.intro hKn h0)))
  have y1 : decide (f < 0) = false := by simp; omega
  have y2 : decide (n < 0) = false := by simp; omega
  clear hY hBr hBs hsb n1 n2 n3 hJ hJx hKn h0
  gi_wp2
  apply wpIn_scope
  gi_wp2
  apply wpIn_label
  gi_wp2
  gi_loopw [4] (fun i wr => ∃ t : Int, f ≤ t ∧ t ≤ f + n ∧ i = .int .i64 t ∧ Hid (∃ S', J (amongL st f t) wr S' ∧ Grows S S' W wr)) (fun i _ => (f + n - intOf i).toNat)
  case atStart => exact ⟨f, by omega, by omega, rfl, Lib.hid ⟨S, by rw [among_nil]; exact HJ.out.2.2.2, Grows.refl _ _⟩⟩
  case round =>
    obtain ⟨t, ht1, ht2, rfl, HV⟩ := hrel
    obtain ⟨S', j1, j2⟩ := HV.out
    have hrow := HJ.out.2.2.1 _ _ _ j1
    have hBr := j2.m.heap HP.out.1 HP.out.2.2.2.1
    have hBs := j2.m.heap HP.out.2.1 HP.out.2.2.2.2.1
    have hsb := j2.m.heap HP.out.2.2.1 HP.out.2.2.2.2.2
    have hN := bNext_any rb rw _ t wr hrow
    rw [clr_next] at hN
    have r0 := heap_cell hBr 0
    have r1 := heap_cell hBr 1
    have s0 := heap_cell hBs 0
    have s1 := heap_cell hsb 0
    simp at r0 r1 s0 s1
    have HQ := Lib.hid (And.intro j1 (And.intro j2 hsb))
    clear hrow hBr hBs hsb j1 j2
    cases hnx : nextM st t with
    | none =>
      rw [hnx] at hN
      have he : amongL st f (f + n) = amongL st f t := among_end ht2 (fun i h1 h2 => next_no hnx i h1)
      have HE := Lib.hid he
      clear hnx he
      gi_wp2_with fail
      refine (callsIn_wide.2 hN).mono ?_
      rintro e w2 ⟨rfl, rfl⟩
      clear hN
      gi_wp2
      simp only [Exit.noGoto]
      gi_wp2
      refine bodyPost_ret (results_none rfl _ _ _) rfl ?_
      exact ⟨⟨_, rfl⟩, S', HQ.out.2.1, .inl ⟨_, rfl, by rw [HE.out]; exact HQ.out.1⟩⟩
    | some q =>
      rw [hnx] at hN
      obtain ⟨hq1, hq2, hq3, hq4⟩ := next_spec hnx
      have ys : IntKind.i64.wrap ((q : Int) - f) = (q : Int) - f := IntWalk.i64_in _ (by omega)
      by_cases hqn : (q : Int) - f < n
      · have y3 : decide ((q : Int) - f ≥ n) = false := by simp; omega
        have hstp := among_step ht1 hnx
        have hpart : amongL st f t ++ [(q : Int)] <+: amongL st f (f + n) := by rw [← hstp]; exact among_prefix _ _ _ _ (by omega)
        have hE : AmE sb rb (q : Int) #[.int .i64 (q : Int)] wr S' := ⟨rfl, HQ.out.2.2, fun e => (HQ.out.2.1.s _ e).elim HP.out.2.2.2.2.2 (fun e => by have := heap_lt HP.out.2.2.1; omega)⟩
        have hy := yield_any (m := 2) (HY.out _ (q : Int) #[.int .i64 (q : Int)] wr S' hpart hE HQ.out.1)
        obtain ⟨fn, tmps, assign, body, hy, hR⟩ := hy
        have HS := Lib.hid hstp
        clear hnx hq3 hq4 hstp hpart hE
        gi_wp2_with fail
        refine (callsIn_wide.2 hN).mono ?_
        rintro e w2 ⟨rfl, rfl⟩
        clear hN
        gi_wp2
        refine RoundIn.mono (R := YieldEnd S' (J (amongL st f t ++ [(q : Int)])) Jx wr) hR ?_
        rintro e W3 ⟨S3, hg3, (⟨rfl, hJ3⟩ | ⟨rfl, hJx3⟩)⟩
        · have HN : Hid (∃ S', J (amongL st f ((q : Int) + 1)) W3 S' ∧ Grows S S' W W3) := Lib.hid ⟨S3, by rw [HS.out]; exact hJ3, HQ.out.2.1.trans hg3⟩
          clear hg3 hJ3 ys y3
          gi_wp2
          go_roundw
          case rel => exact ⟨(q : Int) + 1, by omega, by omega, rfl, HN⟩
          case measure => simp [intOf]; omega
        · have HN := Lib.hid (And.intro (HQ.out.2.1.trans hg3) hJx3)
          clear hg3 hJx3
          gi_wp2
          simp only [Exit.noGoto]
          gi_wp2
          refine bodyPost_ret (results_none rfl _ _ _) rfl ?_
          exact ⟨⟨_, rfl⟩, S3, HN.out.1, .inr HN.out.2⟩
      · have y3 : decide ((q : Int) - f ≥ n) = true := by simp; omega
        have he : amongL st f (f + n) = amongL st f t := among_end ht2 (fun i h1 h2 => hq4 i (by omega) h1)
        have HE := Lib.hid he
        clear hnx he hq3 hq4
        gi_wp2_with fail
        refine (callsIn_wide.2 hN).mono ?_
        rintro e w2 ⟨rfl, rfl⟩
        clear hN
        gi_wp2
        simp only [Exit.noGoto]
        gi_wp2
        refine bodyPost_ret (results_none rfl _ _ _) rfl ?_
        exact ⟨⟨_, rfl⟩, S', HQ.out.2.1, .inl ⟨_, rfl, by rw [HE.out]; exact HQ.out.1⟩⟩
end Go.Proofs.YtcenagpkfimkbaaGreatDoor
namespace Go.Proofs.YtcenagpkfimkbaaGreatDoor
open Go Go.RowKit Go.Shelf

attribute [local go_sem] Oper.semAt_some
@[local go_sem] theorem wide_fnD (f : FuncId) : Fence.wide.fn f = True := rfl
@[local go_sem] theorem wide_fnD2 (l : Nat) (f : FuncId) : (Fence.wide.inRound l).fn f = True := rfl

theorem mark_one (xs : List Bool) (q : Nat) (h : q < xs.length) : markX xs (q : Int) 1 false = xs.set q false := by
  have hb : hasB xs.length (q : Int) 1 = true := by simp [hasB]; omega
  rw [markX, if_pos hb]
  have h0 := markL_succ xs q 0 false (by omega)
  rw [markL_zero] at h0
  simpa using h0.symm
def DropI (st : List Bool) (sb rb rw b2 b5 : Nat) (pre : List Int) : HP := fun W S =>
  W.heap[b2]? = some (.cells #[.pointer (some ⟨sb, 0, none⟩)] 107 (0, 0)) ∧ W.heap[b5]? = some (.cells #[.int .i64 pre.length] 3 (0, 0)) ∧ RowAt W rb rw (clrP st pre) ∧ ∀ k, S k ↔ k = b2 ∨ k = b5 ∨ k = rb ∨ k = rw
theorem DropI.ok (st : List Bool) (sb rb rw b2 b5 : Nat) (pre : List Int) : (DropI st sb rb rw b2 b5 pre).Ok := by
  constructor
  · rintro w w' S T ⟨h1, h2, h3, hs⟩ hm hd
    exact ⟨hm.heap h1 (hd _ ((hs _).2 (by simp))), hm.heap h2 (hd _ ((hs _).2 (by simp))), h3.moved hm (hd _ ((hs _).2 (by simp))) (hd _ ((hs _).2 (by simp))), hs⟩
  · rintro w S ⟨h1, h2, h3, hs⟩ k hk
    obtain ⟨⟨_, r1⟩, ⟨_, r2⟩⟩ := h3.blocks
    rcases (hs k).1 hk with rfl | rfl | rfl | rfl
    · exact heap_lt h1
    · exact heap_lt h2
    · exact heap_lt r1
    · exact heap_lt r2

set_option maxRecDepth 100000 in
set_option maxHeartbeats 4000000 in
theorem sDrop_any {sb rb rw : Nat} {st : List Bool} {w : World} (h : StartsAt w sb rb rw st) (f n : Int) (hf : 0 ≤ f) (hf1 : f ≤ 1000000) (hn : 0 ≤ n) (hn1 : n ≤ 1000000) :
    Calls Tryz.prog 112 #[.pointer (some ⟨sb, 0, none⟩), .agg #[.int .i64 f, .int .i64 n]] w fun e w' => (∃ k : Int, e = .returned (.int .i64 k)) ∧ Moved (fun q => q = rw) w w' ∧ StartsAt w' sb rb rw (drpL st f n) := by
  have hl := h.len
  have hap := h.apart
  obtain ⟨X, hX⟩ : ∃ X, ((w.alloc (.cells #[.pointer (some ⟨sb, 0, none⟩)] 107)).alloc (.cells #[.int .i64 f, .int .i64 n] 160)).alloc (.cells #[.int .i64 0] 3) = X := ⟨_, rfl⟩
  have hbX : Below w.heap.size w X := by rw [← hX]; exact (((Below.refl _ _).alloc (Nat.le_refl _) _).alloc (by simp) _).alloc (by simp; omega) _
  have o2 : X.heap[w.heap.size]? = some (.cells #[.pointer (some ⟨sb, 0, none⟩)] 107 (0, 0)) := by rw [← hX]; exact heap_alloc_lt (heap_alloc_lt (heap_alloc_eq _ _) _) _
  have o3 : X.heap[w.heap.size + 1]? = some (.cells #[.int .i64 f, .int .i64 n] 160 (0, 0)) := by rw [← hX]; refine heap_alloc_lt ?_ _; simpa using heap_alloc_eq (w.alloc (.cells #[.pointer (some ⟨sb, 0, none⟩)] 107)) (.cells #[.int .i64 f, .int .i64 n] 160)
  have o5 : X.heap[w.heap.size + 2]? = some (.cells #[.int .i64 0] 3 (0, 0)) := by rw [← hX]; simpa using heap_alloc_eq ((w.alloc (.cells #[.pointer (some ⟨sb, 0, none⟩)] 107)).alloc (.cells #[.int .i64 f, .int .i64 n] 160)) (.cells #[.int .i64 0] 3)
  have hA := samong_any sb f n X
  obtain ⟨W4, hW4⟩ : ∃ W4, (X.alloc (.cells #[.pointer (some ⟨sb, 0, none⟩)] 107)).alloc (.cells #[.int .i64 f, .int .i64 n] 160) = W4 := ⟨_, rfl⟩
  have hb4 : Below X.heap.size X W4 := by rw [← hW4]; exact ((Below.refl _ _).alloc (Nat.le_refl _) _).alloc (by simp) _
  have p4 : W4.heap[X.heap.size]? = some (.cells #[.pointer (some ⟨sb, 0, none⟩)] 107 (0, 0)) := by rw [← hW4]; exact heap_alloc_lt (heap_alloc_eq _ _) _
  have p5 : W4.heap[X.heap.size + 1]? = some (.cells #[.int .i64 f, .int .i64 n] 160 (0, 0)) := by rw [← hW4]; simpa using heap_alloc_eq (X.alloc (.cells #[.pointer (some ⟨sb, 0, none⟩)] 107)) (.cells #[.int .i64 f, .int .i64 n] 160)
  rw [hW4] at hA
  have k2 := heap_cell o2 0
  have k30 := heap_cell o3 0
  have k31 := heap_cell o3 1
  simp at k2 k30 k31
  have s1 : w.heap.size + 2 < X.heap.size := heap_lt o5
  have s2 : X.heap.size + 1 < W4.heap.size := heap_lt p5
  refine (callsIn_wide (n := 3)).1 ?_
  refine callsIn_of_wp_marks Tryz.func112 rfl trivial ?_ rfl
  simp only [Tryz.ntmps112, List.size_toArray, List.length_cons, List.length_nil, Nat.reduceAdd, Nat.reduceSub, Array.replicate_succ, Array.replicate_zero, List.push_toArray, List.append_toArray, List.nil_append, List.cons_append]
  have HH := Lib.hid (And.intro h (And.intro hap (And.intro hbX (And.intro o2 (And.intro o3 (And.intro o5 (And.intro hb4 (And.intro p4 p5))))))))
  have HXX := Lib.hid hX
  clear h hap hbX o2 o3 o5 hb4 p4 p5 hW4 hX
  gi_wp2_with fail
  rw [HXX.out]
  refine (callsIn_wide.2 hA).mono ?_
  rintro e W4' ⟨rfl, rfl⟩
  clear hA k2 k30 k31
  gi_wp2
  have hb04 : Below w.heap.size w W4' := HH.out.2.2.1.trans (HH.out.2.2.2.2.2.2.1.mono (by omega))
  have hS4 := HH.out.1.later hb04
  refine wpIn_range_hpK (by omega) (gf := 185) (lb := #[.pointer (some ⟨X.heap.size + 1, 0, none⟩), .pointer (some ⟨X.heap.size, 0, none⟩)]) rfl (enters_of Tryz.func185 (by kernel_rfl) rfl)
    (among_hands sb rb rw st hl f n hf hf1 hn hn1 (X.heap.size + 1) X.heap.size) (DropI st sb rb rw w.heap.size (w.heap.size + 2)) (fun _ _ => False) (DropI.ok _ _ _ _ _ _) noHP_ok (fun k => k = w.heap.size ∨ k = w.heap.size + 2 ∨ k = rb ∨ k = rw)
    ⟨heap_below HH.out.2.2.2.2.2.2.1 HH.out.2.2.2.1 (by omega), heap_below HH.out.2.2.2.2.2.2.1 HH.out.2.2.2.2.2.1 (by omega), hS4.row, fun k => Iff.rfl⟩ (fun x args W S hE => by rw [hE.1]; rfl) (fun pre W S hI => hI.2.2.1) ?pre ?round ?done ?stop
  case pre =>
    intro Wn Sn hb hs
    have hlb := heap_lt HH.out.1.blk
    obtain ⟨⟨_, r1⟩, ⟨_, r2⟩⟩ := HH.out.1.row.blocks
    have h1 := heap_lt r1
    have h2 := heap_lt r2
    have ha := HH.out.2.1
    exact ⟨heap_below hb HH.out.2.2.2.2.2.2.2.2 (by omega), heap_below hb HH.out.2.2.2.2.2.2.2.1 (by omega), heap_below hb hS4.blk (by omega), fun e => by have := hs _ e; omega, fun e => by have := hs _ e; omega, fun e => by have := hs _ e; omega⟩
  case round =>
    rintro l' D' pre x args Wn Sn hpart ⟨rfl, hsb, hnsb⟩ hI hltn hl' hnl hnel
    gi_wp2
    refine ⟨Below.refl _ _, ?_⟩
    intro ob hmB hIB
    obtain ⟨WB, hWB⟩ : ∃ WB, Wn.putObj l' ob = WB := ⟨_, rfl⟩
    rw [hWB] at hmB hIB ⊢
    obtain ⟨g1, g2, g3, g4⟩ := hIB
    clear hWB
    have hsbB := hmB.heap hsb (fun e => hnsb (.inr (.inl e)))
    have hxm : x ∈ amongL st f (f + n) := hpart.subset (by simp)
    obtain ⟨q, rfl, hq, _⟩ := amongL_mem.1 hxm
    have hln : pre.length + 1 ≤ 16384 := by
      have h1 := hpart.length_le
      have h2 := amongL_length st f (f + n)
      simp at h1
      omega
    have z2 := heap_cell g1 0
    have z5 := heap_cell g2 0
    have y5 := heap_free g2 0
    have zs := heap_cell hsbB 0
    simp at z2 z5 zs
    have hMk := bMark_any rb rw (clrP st pre) (q : Int) 1 false WB g3
    rw [mark_one _ _ (by rw [clrP_length]; exact hq)] at hMk
    have hmw : rw ≠ w.heap.size ∧ rw ≠ w.heap.size + 2 ∧ rb ≠ w.heap.size + 2 := by
      obtain ⟨⟨_, r1⟩, ⟨_, r2⟩⟩ := HH.out.1.row.blocks
      have h1 := heap_lt r1
      have h2 := heap_lt r2
      omega
    have HG := Lib.hid (And.intro g1 (And.intro g2 (And.intro g3 (And.intro g4 (And.intro hmB.size hmw)))))
    obtain ⟨m, hm⟩ : ∃ m : Int, (pre.length : Int) = m := ⟨_, rfl⟩
    rw [hm] at z5
    have hm1 : m ≤ 16384 := by omega
    have hm0 : 0 ≤ m := by omega
    have HM := Lib.hid hm
    clear g1 g2 g3 g4 hmB hsb hnsb hsbB hI hpart hxm hmw hm
    gi_wp2_with fail
    refine (callsIn_wide.2 hMk).mono ?_
    rintro e W5 ⟨rfl, hm5, hr5⟩
    have f5 := hm5.heap HG.out.2.1 (fun e => HG.out.2.2.2.2.2.2.1 e.symm)
    rw [HM.out] at f5
    have z6 := heap_cell f5 0
    have y6 := heap_free f5 0
    simp at z6
    have HF : Hid (BodyEnd (fun k => Sn k ∨ Wn.heap.size ≤ k) (DropI st sb rb rw w.heap.size (w.heap.size + 2) (pre ++ [(q : Int)])) (fun _ _ => False) WB .normal { tmps := #[], defers := [] } (W5.setCell ⟨w.heap.size + 2, 0, none⟩ (.int .i64 (m + 1)))) := by
      have hS := HG.out.2.2.2.1
      refine Lib.hid ⟨Sn, ⟨((Moved.refl _ WB).trans hm5 (fun q e => .inl (.inl ((hS q).2 (by rw [e]; simp))))).trans (.of_set W5 _ 0 _ (.inl ((hS _).2 (by simp)))) (fun q e => .inl e), fun k hk => .inl (.inl hk)⟩, ?_, ?_, ?_, hS⟩
      · exact (heap_set_ne (by omega) _ _).trans (hm5.heap HG.out.1 (fun e => HG.out.2.2.2.2.2.1 e.symm))
      · rw [Boxed.set (t := 3) (.int .i64 (m + 1)) f5]
        have := HM.out
        simp
        omega
      · rw [clrP_snoc]
        refine RowAt.moved ?_ (Moved.of_set (S := fun k => k = w.heap.size + 2) W5 _ 0 _ rfl) HG.out.2.2.2.2.2.2.2 HG.out.2.2.2.2.2.2.1
        simpa using hr5
    clear hMk hm5 hr5 f5
    gi_wp2
    exact HF.out
  case done =>
    rintro D xs W5 S5 hD rfl ⟨g1, g2, g3, g4⟩ hg hnD hK
    have z5 := heap_cell g2 0
    simp at z5
    have hne : D ≠ rb ∧ D ≠ rw ∧ D ≠ sb := by
      obtain ⟨⟨_, r1⟩, ⟨_, r2⟩⟩ := HH.out.1.row.blocks
      have h1 := heap_lt r1
      have h2 := heap_lt r2
      have h3 := heap_lt HH.out.1.blk
      omega
    have hmv : Moved (fun k => k = D) W5 (W5.putObj D (.deferred none)) := .of_grown (grownBy_putObj' W5 D (.deferred none)) (fun k e => by cases e; rfl)
    have hrow := HH.out.1.row
    have hcl : (clrP st (amongL st f (f + n))).length = st.length := clrP_length _ _
    have hrb : W5.heap[rb]? = w.heap[rb]? := by
      obtain ⟨ws, b1, k1, _⟩ := g3
      obtain ⟨ws0, b0, k0, _⟩ := hrow
      have e1 := b1.1
      have e0 := b0.1
      rw [hcl] at e1 k1
      rw [k1, k0, e1, e0]
    have h1 := heap_lt hrow.blocks.1.choose_spec
    have hfin : Moved (fun q => q = rw) w (W5.putObj D (.deferred none)) := by
      have m1 := (Moved.refl (fun k => k = w.heap.size ∨ k = w.heap.size + 2 ∨ k = rb ∨ k = rw) w).trans (Moved.of_below hb04 _) (fun q e => .inl e)
      have m2 := m1.trans hg.m (fun q e => .inl e)
      have m3 := m2.trans hmv (fun q e => .inr (by omega))
      refine ⟨m3.os, m3.tape, m3.output, m3.size, fun k hk hn => ?_⟩
      by_cases e : k = rb
      · subst e
        exact (World.putObj_heap_other (Ne.symm hne.1)).trans hrb
      · exact m3.block k hk (fun h => by omega)
    have hst : StartsAt (W5.putObj D (.deferred none)) sb rb rw (drpL st f n) := by
      have hap := HH.out.2.1
      have := heap_lt HH.out.1.blk
      exact ⟨(World.putObj_heap_other (Ne.symm hne.2.2)).trans (hg.m.heap hS4.blk (by omega)), g3.moved hmv (Ne.symm hne.1) (Ne.symm hne.2.1)⟩
    have HF := Lib.hid (And.intro hK (And.intro hfin hst))
    clear g1 g2 g3 g4 hg hnD hK hne hmv hrb hfin hst hS4 hb04 hrow hcl h1
    gi_wp2
    refine ⟨by simp, .inl ⟨_, _, rfl, run_takeDeferred HF.out.1, ?_⟩⟩
    exact ⟨_, results_tmp rfl _ _ _, ⟨_, rfl⟩, (by exact HF.out.2)⟩
  case stop =>
    rintro D W S _ h
    exact h.elim
end Go.Proofs.YtcenagpkfimkbaaGreatDoor
namespace Go.Proofs.YtcenagpkfimkbaaGreatDoor
open Go Go.RowKit

def ptrIdx (ks : List Int) (n : Nat) : List Int := ((List.range n).filter fun i => isPtr (ks.getD i 0)).map fun (i : Nat) => (i : Int)
theorem ptrIdx_succ (ks : List Int) (n : Nat) : ptrIdx ks (n + 1) = if isPtr (ks.getD n 0) = true then ptrIdx ks n ++ [(n : Int)] else ptrIdx ks n := by
  unfold ptrIdx
  rw [List.range_succ, List.filter_append]
  by_cases h : isPtr (ks.getD n 0) = true
  · rw [if_pos h, List.filter_cons_of_pos (by exact h)]
    simp
  · rw [if_neg h, List.filter_cons_of_neg (by exact h)]
    simp
theorem ptrIdx_length (ks : List Int) (n : Nat) : (ptrIdx ks n).length ≤ n := by
  unfold ptrIdx
  rw [List.length_map]
  exact Nat.le_trans (List.length_filter_le _ _) (by simp)
theorem ptrIdx_mem {ks : List Int} {n : Nat} {x : Int} (h : x ∈ ptrIdx ks n) : ∃ i : Nat, x = i ∧ i < n ∧ isPtr (ks.getD i 0) = true := by
  unfold ptrIdx at h
  simp only [List.mem_map, List.mem_filter, List.mem_range] at h
  obtain ⟨i, ⟨h1, h2⟩, rfl⟩ := h
  exact ⟨i, rfl, h1, h2⟩

structure PInv (w wr : World) (v : Value) (xs : List Int) : Prop where
  o : wr.ownsRow w.heap.size 3 1 v xs.length (xs.map (Value.int .i64))
  b : Below w.heap.size w wr

set_option maxRecDepth 100000 in
set_option maxHeartbeats 2000000 in
theorem places_any (a : Option Addr) (ks : List Int) (cap : Nat) (w : World) (hT : Tab w) (hK : Reads .i64 w a ks) (hl : ks.length ≤ 100000) :
    Calls Tryz.prog 182 #[.slice a ks.length cap, .func (.func 119) #[] #[]] w fun e w' => ∃ v, e = .returned v ∧ Below w.heap.size w w' ∧ w'.ownsRow w.heap.size 3 1 v (ptrIdx ks ks.length).length ((ptrIdx ks ks.length).map (Value.int .i64)) := by
  have HH := Lib.hid (And.intro hT hK)
  have hcf : ∀ (args : Array Value) (w : World), Sem.run Tryz.prog (callFunc 119 args) w = .ok (.enter 119 args) w := fun _ _ => rfl
  clear hT hK
  go_enter Tryz.func182, Tryz.ntmps182
  go_wp2
  go_loopw [5, 10] (fun v i wr => ∃ j : Nat, j ≤ ks.length ∧ i = .int .i64 j ∧ Hid (PInv w wr v (ptrIdx ks j))) (fun _ i _ => ks.length - (intOf i).toNat)
  case atStart => exact ⟨0, Nat.zero_le _, rfl, Lib.hid ⟨World.ownsRow_nil _ _ _ _, Below.refl _ _⟩⟩
  case round =>
    obtain ⟨j, hj, rfl, HV⟩ := hrel
    obtain ⟨va, vc, rfl, _⟩ := owns_slice HV.out.o
    by_cases hlt : j < ks.length
    · obtain ⟨b, off, rfl, hc⟩ := HH.out.2.at_ j hlt
      have hcr := (HV.out.b.cell (cell_lt hc)).trans hc
      obtain ⟨k, hk⟩ : ∃ k, (ks[j]?).getD 0 = k := ⟨_, rfl⟩
      rw [hk] at hcr
      have hP := Pointer_any k wr (HH.out.1.below HH.out.1.lt HV.out.b)
      have hs := ptrIdx_succ ks j
      have hkd : ks.getD j 0 = k := by rw [List.getD_eq_getElem?_getD, hk]
      rw [hkd] at hs
      have HS := Lib.hid hs
      have hpl := ptrIdx_length ks j
      clear hc hk hkd hs
      cases hp : isPtr k
      · rw [hp] at hP HS
        have HN : Hid (PInv w wr (.slice va (ptrIdx ks j).length vc) (ptrIdx ks (j + 1))) := Lib.hid (by rw [HS.out, if_neg (by simp)]; exact HV.out)
        clear hp
        go_wp2_with fail
        refine hP.mono ?_
        rintro e w2 ⟨rfl, rfl⟩
        clear hP
        go_wp2
        go_roundw
        case rel => exact ⟨j + 1, by omega, by go_num, HN⟩
        case measure => simp [intOf]; omega
      · rw [hp] at hP HS
        have hown := HV.out.o
        obtain ⟨i0, hi0, hz0, hz1, hz2⟩ := info_parts info_int
        have hwr := HV.out.b.size
        clear hp
        go_wp2_with fail
        refine hP.mono ?_
        rintro e w2 ⟨rfl, rfl⟩
        clear hP
        go_wp2_with (at_builtin; refine Hid.out ?_)
        refine Lib.hid ?_
        refine wpList_append_keep _ rfl _ _ 58 rfl w.heap.size 3 i0 (.int .i64 0) 1 8 Tryz.underlying58 hi0 hz0 hz1 hz2 rfl (by decide) _ _ _ rfl (hown.alloc _) ⟨wr.heap.size, 0, none⟩ 1 1 [.int .i64 j] rfl (by rfl) (World.news_of_block (cs := #[.int .i64 j]) (t := 3) (fr := (0, 0)) (heap_alloc_new wr _)) (by simp [Value.oneCell']) (by unfold maxLen; omega) (by omega) (by simp; omega) ?_
        intro v' w4 ho4 hg4 hk4
        obtain ⟨va', vc', rfl, _⟩ := owns_slice ho4
        have HN : Hid (PInv w w4 (.slice va' ((ptrIdx ks j).length + 1) vc') (ptrIdx ks (j + 1))) := Lib.hid (by
          rw [HS.out, if_pos (by first | rfl | trivial)]
          refine ⟨?_, ?_⟩
          · rw [List.length_append, List.map_append]; exact ho4
          · exact Moved.below (HV.out.b.alloc HV.out.b.size _) (.of_grown hg4 (S := fun k => (Value.slice va (ptrIdx ks j).length vc).ownBlock = some k) (fun k e => e)) (by have := HV.out.b.size; simp; omega) (fun q e => (hown.lt q e).1))
        clear ho4 hg4 hk4 hown
        go_wp2
        go_roundw
        case rel => exact ⟨j + 1, by omega, by go_num, HN⟩
        case measure => simp [intOf]; omega
    · obtain rfl : j = ks.length := by omega
      go_wp2
      go_ret
      exact ⟨_, rfl, HV.out.b, HV.out.o⟩

set_option maxRecDepth 100000 in
theorem Pointers_any (x1 x2 x4 x5 x6 : Int) (x3 : Bool) (a : Option Addr) (ks : List Int) (cap : Nat) (va : Option Addr) (vl vc : Nat) (w : World) (hT : Tab w) (hK : Reads .i64 w a ks) (hl : ks.length ≤ 100000) :
    Calls Tryz.prog 153 #[.agg #[.int .i64 x1, .int .i64 x2, .bool x3, .int .i64 x4, .int .i64 x5, .int .i64 x6, .slice a ks.length cap, .slice va vl vc]] w fun e w' => ∃ v, e = .returned v ∧ Below w.heap.size w w' ∧ w'.ownsRow w.heap.size 3 1 v (ptrIdx ks ks.length).length ((ptrIdx ks ks.length).map (Value.int .i64)) := by
  obtain ⟨W, hW⟩ : ∃ W, w.alloc (.cells #[.int .i64 x1, .int .i64 x2, .bool x3, .int .i64 x4, .int .i64 x5, .int .i64 x6, .slice a ks.length cap, .slice va vl vc] 104) = W := ⟨_, rfl⟩
  have hb : Below w.heap.size w W := by rw [← hW]; exact (Below.refl _ _).alloc (Nat.le_refl _) _
  have o : W.heap[w.heap.size]? = some (.cells #[.int .i64 x1, .int .i64 x2, .bool x3, .int .i64 x4, .int .i64 x5, .int .i64 x6, .slice a ks.length cap, .slice va vl vc] 104 (0, 0)) := by rw [← hW]; exact heap_alloc_eq _ _
  have c6 := heap_cell o 6
  simp at c6
  have hP := places_any a ks cap W (hT.below hT.lt hb) (hK.below hb) hl
  have HB := Lib.hid hb
  clear hT hK hb o
  go_enter Tryz.func153, Tryz.ntmps153
  go_wp2_with fail
  try rw [hW]
  go_wp2_with fail
  refine hP.mono ?_
  rintro e w1 ⟨v, rfl, hb1, ho⟩
  have HF := Lib.hid (And.intro (HB.out.trans (hb1.mono HB.out.size)) (owns_low ho HB.out.size))
  obtain ⟨va', vc', rfl, _⟩ := owns_slice ho
  clear hP hb1 ho
  go_wp2
  go_ret
  exact ⟨_, rfl, HF.out⟩
end Go.Proofs.YtcenagpkfimkbaaGreatDoor
namespace Go.Proofs.YtcenagpkfimkbaaGreatDoor
open Go Go.RowKit

structure TInv (w1 wr : World) (v : Value) (rs : List (Int × Int)) : Prop where
  o : OwnRuns wr v rs
  b : Below w1.heap.size w1 wr
  n : ∀ k, v.ownBlock = some k → w1.heap.size ≤ k

theorem keys_len {m : IM Int} {pre : List Int} (h : KeysPart (mapV (Value.int .i64) m) pre) (hr : Rising m) : pre.length ≤ m.length := by
  have hn : (m.map (·.1)).Nodup := (List.pairwise_map.2 hr : (m.map (·.1)).Pairwise (fun a c => a < c)).imp (fun h => by omega)
  have hp : pre.Perm ((m.map (·.1)).filter (fun x => pre.contains x)) := by
    refine (List.perm_ext_iff_of_nodup h.1 (hn.filter _)).2 fun x => ⟨fun hx => ?_, fun hx => List.contains_iff_mem.1 (List.mem_filter.1 hx).2⟩
    obtain ⟨u, hu⟩ := Option.isSome_iff_exists.1 (h.2 x hx)
    rw [lk_mapV] at hu
    cases hm : lk m x with
    | none => rw [hm] at hu; cases hu
    | some y => exact List.mem_filter.2 ⟨List.mem_map.2 ⟨(x, y), (lk_some hr).1 hm, rfl⟩, List.contains_iff_mem.2 hx⟩
  rw [hp.length_eq]
  refine Nat.le_trans (List.length_filter_le _ _) ?_
  simp

set_option maxRecDepth 100000 in
set_option maxHeartbeats 2000000 in
theorem taAll_any {tb mb : Nat} {m : IM Int} {w : World} (h : TallyAt w tb mb m) (hl : m.length ≤ 100000) (hk : ∀ p ∈ m, -9223372036854775808 ≤ p.1 ∧ p.1 ≤ 9223372036854775807) :
    Calls Tryz.prog 155 #[.pointer (some ⟨tb, 0, none⟩)] w (RetRuns m w) := by
  have c0 := heap_cell h.blk 0
  simp at c0
  have hris := h.rising
  have hK := keys_any mb w
  obtain ⟨W1, hW1⟩ : ∃ W1, w.alloc (.cells #[.map (some mb)] 61) = W1 := ⟨_, rfl⟩
  have hb1 : Below w.heap.size w W1 := by rw [← hW1]; exact (Below.refl _ _).alloc (Nat.le_refl _) _
  have hbx : W1.heap[w.heap.size]? = some (.cells #[.map (some mb)] 61 (0, 0)) := by rw [← hW1]; exact heap_alloc_eq _ _
  rw [hW1] at hK
  have hM := h.map
  have hmb := hM.lt
  have hS := sorted_any (enters_of Tryz.func213 (by kernel_rfl) rfl) (keys_hands w.heap.size mb (mapV (Value.int .i64) m)) W1 (fun pre hp => by have := keys_len hp hris; omega) (fun xs hp => by have := hp.length_eq; simp [mapV] at this; omega)
    (fun W S hb hs => ⟨heap_below hb hbx (heap_lt hbx), (hM.later hb1).later hb, fun e => by have := hs _ e; have := heap_lt hbx; omega, fun e => by have := hs _ e; have := hb1.size; omega⟩)
  have HH := Lib.hid (And.intro h (And.intro hris (And.intro hk (And.intro hb1 hb1))))
  clear h hris hk hbx hM hW1
  go_enter Tryz.func155, Tryz.ntmps155
  go_wp2_with fail
  refine hK.mono ?_
  rintro e W ⟨rfl, rfl⟩
  clear hK hb1
  go_wp2_with fail
  refine hS.mono ?_
  rintro e w1 ⟨v, xs, rfl, hp, hb2, ho⟩
  have hsorted : xs.mergeSort (fun x y => decide (x ≤ y)) = m.map (·.1) := by
    have e : (mapV (Value.int .i64) m).map (·.1) = m.map (·.1) := by simp [mapV]
    exact sort_rising (e ▸ hp) (List.pairwise_map.2 HH.out.2.1)
  have hxl : xs.length = m.length := by rw [hp.length_eq]; simp [mapV]
  rw [hsorted, hxl] at ho
  have hown2 : w1.ownsRow W.heap.size 3 1 v (m.map (·.1)).length ((m.map (·.1)).map (Value.int .i64)) := by simpa using ho
  obtain ⟨a, cap, rfl, hrd, _, _⟩ := owns_reads hown2
  have hbw : Below w.heap.size w w1 := HH.out.2.2.2.1.trans (hb2.mono HH.out.2.2.2.1.size)
  have H1 := Lib.hid (And.intro hrd hbw)
  have hml : (m.map (·.1)).length = m.length := by simp
  rw [hml]
  clear hS hp hb2 ho hown2 hrd hbw hsorted hxl hml
  go_wp2
  go_loopw [3, 13] (fun v i wr => ∃ j : Nat, j ≤ m.length ∧ i = .int .i64 j ∧ Hid (TInv w1 wr v (m.take j))) (fun _ i _ => m.length - (intOf i).toNat)
  case atStart => exact ⟨0, Nat.zero_le _, rfl, Lib.hid ⟨World.ownsRow_nil _ _ _ _, Below.refl _ _, by simp [Value.ownBlock]⟩⟩
  case round =>
    obtain ⟨j, hj, rfl, HV⟩ := hrel
    by_cases hlt : j < m.length
    · obtain ⟨b, off, rfl, hc⟩ := H1.out.1.at_ j (by simpa using hlt)
      obtain ⟨p, hpj⟩ : ∃ p, m[j]? = some p := ⟨_, List.getElem?_eq_getElem hlt⟩
      obtain ⟨x, y⟩ := p
      have hpm := List.mem_of_getElem? hpj
      have hx := HH.out.2.2.1 _ hpm
      have hc2 : w1.cell? ⟨b, off + j, none⟩ = some (.int .i64 x) := by rw [hc]; simp [hpj]
      have hcr := (HV.out.b.cell (cell_lt hc2)).trans hc2
      have hT := (HH.out.1.later H1.out.2).later HV.out.b
      have hlook := look_int hT.map x hx.1 hx.2
      have hat : at0 m x = y := by rw [at0, (lk_some HH.out.2.1).2 hpm]; rfl
      rw [hat] at hlook
      have d0 := heap_cell hT.blk 0
      simp at d0
      have hown := HV.out.o
      have htk : m.take (j + 1) = m.take j ++ [(x, y)] := by rw [List.take_add_one, hpj]; rfl
      obtain ⟨ra, rc, rfl, _⟩ := hown.shape
      have hlen : (m.take j).length = j := by simp; omega
      have HZ := Lib.hid (And.intro htk hlen)
      have hlen2 : (m.take j).length ≤ 1000000 := by omega
      clear hc hc2 hpj hpm hx hT hat htk hlen c0
      go_wp2_with (at_builtin; refine Hid.out ?_)
      refine Lib.hid ?_
      refine wpList_runs_app rfl _ _ rfl _ (m.take j) (by rfl) (hown.moved (Moved.alloc (fun _ => False) wr _) (fun _ _ e => e)) ⟨wr.heap.size, 0, none⟩ x y (by rfl) (World.news_of_block (cs := #[.int .i64 x, .int .i64 y]) (t := 160) (fr := (0, 0)) (heap_alloc_new wr _)) hlen2 ?_
      intro g cap' w4 ho4 hm4 hg4
      have HN : Hid (TInv w1 w4 (.slice (some ⟨g, 0, none⟩) (j + 1) cap') (m.take (j + 1))) := by
        rw [HZ.out.2] at ho4
        refine Lib.hid ⟨?_, ?_, fun k hk => ?_⟩
        · rw [HZ.out.1]
          exact ho4
        · exact Moved.below (HV.out.b.alloc HV.out.b.size _) hm4 (by have := HV.out.b.size; simp; omega) (fun q e => HV.out.n q e)
        · simp [Value.ownBlock] at hk
          subst hk
          rcases hg4 with h | h
          · exact HV.out.n _ h
          · have := HV.out.b.size; simp at h; omega
      clear ho4 hm4 hg4
      go_wp2
      go_roundw
      case rel => exact ⟨j + 1, by omega, by go_num, HN⟩
      case measure => simp [intOf]; omega
    · obtain rfl : j = m.length := by omega
      rw [List.take_length] at HV
      obtain ⟨ra, rc, rfl, _⟩ := HV.out.o.shape
      go_wp2
      go_ret
      have := HV.out
      refine ⟨_, rfl, H1.out.2.trans (this.b.mono H1.out.2.size), this.o, fun k hk => Nat.le_trans H1.out.2.size (this.n k hk)⟩
end Go.Proofs.YtcenagpkfimkbaaGreatDoor
