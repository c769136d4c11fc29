/-
  The document's Has, Fill and Write.
-/
import Derived.Test.YtojcdljpgginjaaDoorIter2
import Derived.Test.YtojcdljpgginjaaDoorAppR
import Derived.Test.YtojcdljpgginjaaDoorOwn
namespace Go.Proofs.YtojcdljpgginjaaDoor
open Go Go.RowKit

theorem fillL_get1 (xs : List Int) (f k : Nat) (v : Int) (j : Nat) (hf : f + k ≤ xs.length) :
    (fillL xs f k v)[j]? = if f ≤ j ∧ j < f + k then some v else xs[j]? := by
  unfold fillL
  rw [if_pos (by simp [hasB]; omega), Int.toNat_natCast, Int.toNat_natCast]
  by_cases h1 : j < f
  · rw [List.getElem?_append_left (by simp; omega), List.getElem?_take, if_pos h1, if_neg (by omega)]
  · rw [List.getElem?_append_right (by simp; omega)]
    have e1 : (xs.take f).length = f := by simp; omega
    rw [e1]
    by_cases h2 : j < f + k
    · rw [List.getElem?_append_left (by rw [List.length_replicate]; omega), List.getElem?_replicate, if_pos (by omega), if_pos (by omega)]
    · rw [List.getElem?_append_right (by rw [List.length_replicate]; omega), List.getElem?_drop, List.length_replicate, show f + k + (j - f - k) = j by omega, if_neg (by omega)]


/-- A row of words comes back (the one that was handed in, or a new one), and an error's number. -/
def RetRow (xs : List Int) (E : Int) (a0 : Option Addr) (w : World) (e : Ending) (w' : World) : Prop :=
  ∃ a cap, e = .returned (.tuple #[.slice a xs.length cap, .int .i64 E]) ∧ Below w.heap.size w w' ∧ Reads .u64 w' a xs ∧ (a = a0 ∨ ∀ q, a = some q → w.heap.size ≤ q.block)
theorem rHas_any (a : Option Addr) (n cap : Nat) (f k : Int) (w : World) (hn : n ≤ 16384) :
    Calls Tryd.prog 40 #[.slice a n cap, .agg #[.int .i64 f, .int .i64 k]] w fun e w' => e = .returned (.bool (hasB n f k)) ∧ Below w.heap.size w w' := by
  go_enter Tryd.func40, Tryd.ntmps40
  go_wp2
  all_goals
    go_ret
    exact ⟨ret_bool (by rw [Bool.eq_iff_iff]; simp [hasB]; try omega), (Below.refl _ _).alloc (Nat.le_refl _) _⟩

theorem fillL_nil (xs : List Int) (f : Nat) (v : Int) : fillL xs f ((0 : Nat) : Int) v = xs := by
  unfold fillL; split <;> simp
theorem fillL_step (xs : List Int) (f j : Nat) (v : Int) (h : f + j < xs.length) : (fillL xs f j v).set (f + j) v = fillL xs f ((j + 1 : Nat) : Int) v := by
  apply List.ext_getElem?
  intro q
  rw [List.getElem?_set, fillL_length, fillL_get1 _ _ _ _ _ (by omega), fillL_get1 _ _ _ _ _ (by omega)]
  by_cases e : f + j = q
  · rw [if_pos e, if_pos (by omega), if_pos (by omega)]
  · rw [if_neg e]
    by_cases e2 : f ≤ q ∧ q < f + j
    · rw [if_pos e2, if_pos (by omega)]
    · rw [if_neg e2, if_neg (by omega)]
set_option maxRecDepth 100000 in
set_option maxHeartbeats 1000000 in
theorem rFillR_any (a : Option Addr) (cap : Nat) (xs : List Int) (f k v : Int) (w : World) (hR : Reads .u64 w a xs) (hn : xs.length ≤ 16384) (hnil : a = none → xs = [] ∧ cap = 0) :
    Calls Tryd.prog 27 #[.slice a xs.length cap, .agg #[.int .i64 f, .int .i64 k], .int .u64 v] w (RetRow (fillL xs f k v) (fillE xs.length f k) a w) := by
  have hW0 : Below w.heap.size w (w.alloc (.cells #[.int .i64 f, .int .i64 k] 24)) := (Below.refl _ _).alloc (Nat.le_refl _) _
  have k0 := heap_alloc_eq w (.cells #[.int .i64 f, .int .i64 k] 24)
  cases h1 : hasB xs.length f k
  · have e1 : Hid (fillL xs f k v = xs) := by show _ = _; simp [fillL, h1]
    have e2 : Hid (fillE xs.length f k = 8) := by show _ = _; simp [fillE, h1]
    go_enter Tryd.func27, Tryd.ntmps27
    go_wp2_with fail
    refine (rHas_any _ _ _ _ _ _ hn).mono ?_
    rw [h1]; rintro e w1 ⟨rfl, hb1⟩; obtain ⟨hc1, hf1, hs1⟩ := bcell hb1; simp only [World.size_alloc] at hs1; have hz1 := Nat.lt_of_succ_le hs1
    go_wp2
    go_ret2
    rw [e1.out, e2.out]
    have hB1 := hW0.trans (hb1.mono (by simp))
    exact ⟨_, _, rfl, hB1, hR.below hB1, .inl rfl⟩
  · have hq := h1
    simp [hasB] at hq
    obtain ⟨q1, q2, q3, q4⟩ := hq
    obtain ⟨f, rfl⟩ := Int.eq_ofNat_of_zero_le q1
    obtain ⟨k, rfl⟩ := Int.eq_ofNat_of_zero_le q2
    have e2 : Hid (fillE xs.length f k = 0) := by show _ = _; simp [fillE, h1]
    go_enter Tryd.func27, Tryd.ntmps27
    go_wp2_with fail
    refine (rHas_any _ _ _ _ _ _ hn).mono ?_
    rw [h1]; rintro e w1 ⟨rfl, hb1⟩; obtain ⟨hc1, hf1, hs1⟩ := bcell hb1; simp only [World.size_alloc] at hs1; have hz1 := Nat.lt_of_succ_le hs1
    have hb2 := Below.refl w1.heap.size w1
    have hw12 : w1 = w1 := rfl
    have hBw : Below w.heap.size w w1 := hW0.trans (hb1.mono (by simp))
    have kb := heap_below hb1 k0 (by simp)
    have c0 := heap_cell kb 0
    have c1 := heap_cell kb 1
    simp at c0 c1
    have hRw := hR.below hBw
    have HN := Lib.hid hnil
    clear hnil
    obtain ⟨i0, hi0, hz0, hz1', hz2⟩ := info_parts info_u64
    clear hc1 hf1
    go_wp2_with (at_builtin; refine wpList_append_reads rfl _ _ 22 rfl w1.heap.size 44 i0 (.int .u64 0) 8 Tryd.underlying22 hi0 hz0 hz1' hz2 rfl _ _ _ rfl (World.ownsRow_made w1 #[] 0 (Nat.le_refl _) (by decide) rfl) a xs cap rfl (hRw.below ((Below.refl _ _).alloc (Nat.le_refl _) _)) HN.out (by unfold maxLen; omega) (by omega) (by simp) ?_)
    · intro v' w3 hown' hgrow _
      have hB3 : Below w1.heap.size w1 w3 := ((Below.refl w1.heap.size w1).alloc (Nat.le_refl _) (.cells #[] 44)).grown hgrow (by simp) (fun q e => by simp [Value.ownBlock] at e; omega)
      have ho : w3.ownsRow w1.heap.size 44 1 v' xs.length (xs.map (Value.int .u64)) := by simpa using hown'
      obtain ⟨ao, cap2, hvo, _, _, _⟩ := owns_reads ho
      subst hvo
      clear hown' hgrow
      go_wp2
      go_loopw [9] (fun i wr => ∃ j : Nat, j ≤ k ∧ i = .int .i64 j ∧ wr.ownsRow w1.heap.size 44 1 (.slice ao xs.length cap2) xs.length ((fillL xs f j v).map (Value.int .u64)) ∧ Below w1.heap.size w1 wr) (fun i _ => k - (intOf i).toNat)
      case atStart => exact ⟨0, Nat.zero_le _, rfl, by rw [fillL_nil]; exact ho, hB3⟩
      case round =>
        obtain ⟨j, hj, rfl, hown, hBr⟩ := hrel
        have kr := heap_below hBr kb (heap_lt kb)
        have r0 := heap_cell kr 0
        have r1 := heap_cell kr 1
        simp at r0 r1
        by_cases hlt : j < k
        · obtain ⟨g, cap3, cur, hshape, hBg, hg⟩ := own_shape hown (by omega)
          simp at hshape
          obtain ⟨rfl, rfl⟩ := hshape
          have hlen : (fillL xs f j v).length = xs.length := fillL_length _ _ _ _
          have hi : f + j < xs.length := by omega
          have hcl : wr.cell? ⟨g, f + j, none⟩ = some (.int .u64 ((fillL xs f j v)[f + j]'(by omega))) := (hown.cellAt (g := g) (f + j) (by omega)).trans (by simp [hlen, hi])
          have hfr := hown.frozenAt (g := g) (f + j)
          have i1 : (f : Int) + (j : Int) < (xs.length : Int) := by omega
          have i2 : ((f : Int) + (j : Int)).toNat = f + j := by omega
          have hst := Lib.hid (show (wr.setCell ⟨g, f + j, none⟩ (.int .u64 v)).ownsRow w1.heap.size 44 1 (.slice (some ⟨g, 0, none⟩) xs.length cap2) xs.length ((fillL xs f ((j + 1 : Nat) : Int) v).map (Value.int .u64)) from by
            have := (hown.stored (f + j) (.int .u64 v)).1
            rw [← fillL_step _ _ _ _ (by omega), List.map_set]
            exact this)
          clear hown hg ho kr hR hRw
          go_wp2
          go_roundw
          case rel => exact ⟨j + 1, by omega, by go_num, hst.out, hBr.setCell hBg _⟩
          case measure => simp [intOf]; omega
        · obtain rfl : j = k := by omega
          obtain ⟨a, cap3, hv, hrd, hbl, _⟩ := owns_reads (show wr.ownsRow w1.heap.size 44 1 (.slice ao xs.length cap2) (fillL xs f j v).length ((fillL xs f j v).map (Value.int .u64)) by rw [fillL_length]; exact hown)
          simp at hv
          obtain ⟨rfl, _, rfl⟩ := hv
          clear hown hR hRw
          go_wp2
          go_ret2
          rw [e2.out]
          exact ⟨_, cap2, by rw [fillL_length]; rfl, hBw.trans (hBr.mono hBw.size), hrd, .inr fun q hq => Nat.le_trans hBw.size (hbl q hq).1⟩

set_option maxRecDepth 100000 in
theorem rWriteR_any (a : Option Addr) (cap : Nat) (xs : List Int) (i v : Int) (w : World) (hR : Reads .u64 w a xs) (hn : xs.length ≤ 300) :
    Calls Tryd.prog 28 #[.slice a xs.length cap, .int .i64 i, .int .u64 v] w (RetRow (wrL xs i v) (wrE xs.length i) a w) := by
  rcases (show (0 ≤ i ∧ i < xs.length) ∨ i < 0 ∨ xs.length ≤ i by omega) with ⟨h0, h1⟩ | h0 | h0
  · obtain ⟨i, rfl⟩ := Int.eq_ofNat_of_zero_le h0
    have hi : i < xs.length := by omega
    obtain ⟨b, off, rfl, hc⟩ := hR.at_ i hi
    have e1 : Hid (wrL xs i v = xs.set i v) := by show _ = _; simp [wrL, inB, hi]
    have e2 : Hid (wrE xs.length i = 0) := by show _ = _; simp [wrE, inB, hi]
    obtain ⟨i0, hi0, hz0, hz1, hz2⟩ := info_parts info_u64
    have hcs := Lib.hid (cells_of_reads hR)
    clear hc
    go_enter Tryd.func28, Tryd.ntmps28
    go_wp2_with (at_builtin; refine wpList_append_own _ rfl _ _ 22 rfl w.heap.size 44 i0 (.int .u64 0) 1 8 Tryd.underlying22 hi0 hz0 hz1 hz2 rfl (by decide) _ _ _ rfl (World.ownsRow_made w #[] 0 (Nat.le_refl _) (by decide) rfl) ⟨b, off, none⟩ xs.length cap (xs.map (Value.int .u64)) rfl ?c0 ?c1 ?c2 ?c3 ?c4 ?c5 ?_)
    case c0 => simp
    case c1 => exact fun j u hj => (cell_alloc_old _ (hcs.out j u hj))
    case c2 => exact ints_oneCell _ _
    case c3 => unfold maxLen; omega
    case c4 => omega
    case c5 => simp
    · intro v' w1 hown' hgrow _
      have hB1 := ((Below.refl w.heap.size w).alloc (Nat.le_refl _) (.cells #[] 44)).grown hgrow (by simp) (fun k e => by simp [Value.ownBlock] at e; omega)
      have ho : w1.ownsRow w.heap.size 44 1 v' xs.length (xs.map (Value.int .u64)) := by simpa using hown'
      clear hown' hgrow
      obtain ⟨g, cap2, cur, rfl, hBg, hg⟩ := own_shape ho (by omega)
      have hcl : w1.cell? ⟨g, i, none⟩ = some (.int .u64 (xs[i]'hi)) := (ho.cellAt (g := g) i (by omega)).trans (by simp [hi])
      have hfr := ho.frozenAt (g := g) i
      have i1 : (i : Int) < (xs.length : Int) := by omega
      have hst := Lib.hid (own_set ho i v hi)
      clear ho hg hcs hR
      go_wp2
      go_ret2
      rw [e1.out, e2.out]
      obtain ⟨a, cap3, hv, hrd, hbl, _⟩ := owns_reads (show (w1.setCell ⟨g, i, none⟩ (.int .u64 v)).ownsRow w.heap.size 44 1 (.slice (some ⟨g, 0, none⟩) xs.length cap2) (xs.set i v).length ((xs.set i v).map (Value.int .u64)) by simpa using hst.out)
      simp at hv
      obtain ⟨rfl, rfl⟩ := hv
      exact ⟨some ⟨g, 0, none⟩, cap2, by simp, hB1.setCell hBg _, hrd, .inr fun q hq => (hbl q hq).1⟩
  all_goals
    have e1 : Hid (wrL xs i v = xs) := by show _ = _; simp [wrL, inB]; omega
    have e2 : Hid (wrE xs.length i = 8) := by show _ = _; simp [wrE, inB]; omega
    go_enter Tryd.func28, Tryd.ntmps28
    go_wp2
    go_ret2
    rw [e1.out, e2.out]
    exact ⟨_, _, rfl, Below.refl _ _, hR, .inl rfl⟩

end Go.Proofs.YtojcdljpgginjaaDoor
