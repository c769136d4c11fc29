/-
  The contracts of kraalref01: Has, New, Write, Fill, Move.
-/
import Derived.Test.YtennhifmhlmjhaaLaid1
import Derived.Test.YtennhifmhlmjhaaIter1
namespace Go.Proofs.Ytennhifmhlmjhaa
open Go Go.RowKit

theorem moveL_get1 (xs : List Int) (f k to j : Nat) (hf : f + k ≤ xs.length) (ht : to + k ≤ xs.length) :
    (moveL xs f k to)[j]? = if to ≤ j ∧ j < to + k then xs[f + (j - to)]? else xs[j]? := by
  unfold moveL
  rw [if_pos (by simp [moveB, hasB]; omega), Int.toNat_natCast, Int.toNat_natCast, Int.toNat_natCast]
  by_cases h1 : j < to
  · rw [List.getElem?_append_left (by simp; omega), List.getElem?_take, if_pos h1, if_neg (by omega)]
  · rw [List.getElem?_append_right (by simp; omega)]
    have e1 : (xs.take to).length = to := by simp; omega
    have e2 : ((xs.drop f).take k).length = k := by simp; omega
    rw [e1]
    by_cases h2 : j < to + k
    · rw [List.getElem?_append_left (by omega), List.getElem?_take, if_pos (by omega), List.getElem?_drop, if_pos (by omega)]
    · rw [List.getElem?_append_right (by omega), e2, List.getElem?_drop, if_neg (by omega), show to + k + (j - to - k) = j by omega]
theorem fillL_get1 (xs : List Int) (f k : Nat) (v : Int) (j : Nat) (hf : f + k ≤ xs.length) :
    (fillL xs f k v)[j]? = if f ≤ j ∧ j < f + k then some v else xs[j]? := by
  unfold fillL
  rw [if_pos (by simp [hasB]; omega), Int.toNat_natCast, Int.toNat_natCast]
  by_cases h1 : j < f
  · rw [List.getElem?_append_left (by simp; omega), List.getElem?_take, if_pos h1, if_neg (by omega)]
  · rw [List.getElem?_append_right (by simp; omega)]
    have e1 : (xs.take f).length = f := by simp; omega
    rw [e1]
    by_cases h2 : j < f + k
    · rw [List.getElem?_append_left (by rw [List.length_replicate]; omega), List.getElem?_replicate, if_pos (by omega), if_pos (by omega)]
    · rw [List.getElem?_append_right (by rw [List.length_replicate]; omega), List.getElem?_drop, List.length_replicate, show f + k + (j - f - k) = j by omega, if_neg (by omega)]


/-- A call returns a slice that reads as xs, and an error's number; the slice is an old one, or new memory. -/
def RetSl (k : IntKind) (xs : List Int) (E : Int) (a0 : Option Addr) (w : World) (e : Ending) (w' : World) : Prop :=
  ∃ a cap, e = .returned (.tuple #[.slice a xs.length cap, .int .i64 E]) ∧ Below w.heap.size w w' ∧ Reads k w' a xs ∧ a ≠ none ∧ (a = a0 ∨ ∀ q, a = some q → w.heap.size ≤ q.block)

theorem rHas_any (a : Option Addr) (n cap : Nat) (f k : Int) (w : World) (hn : n ≤ 16384) :
    Calls Try.prog 24 #[.slice a n cap, .agg #[.int .i64 f, .int .i64 k]] w fun e w' => e = .returned (.bool (hasB n f k)) ∧ Below w.heap.size w w' := by
  go_enter Try.func24, Try.ntmps24
  go_wp2
  all_goals
    go_ret
    exact ⟨ret_bool (by rw [Bool.eq_iff_iff]; simp [hasB]; try omega), (Below.refl _ _).alloc (Nat.le_refl _) _⟩

set_option maxHeartbeats 1000000 in
theorem rNew_any (n : Nat) (w : World) (hn : n ≤ 16384) :
    Calls Try.prog 15 #[.int .i64 n] w (RetSl .u64 (List.replicate n 0) 0 none w) := by
  obtain ⟨i0, hi, hz0, hz1, hz2⟩ := info_parts info_u64
  go_enter Try.func15, Try.ntmps15
  go_wp2
  go_loopw [4, 5] (fun v i wr => ∃ j : Nat, j ≤ n ∧ i = .int .i64 j ∧ wr.ownsRow w.heap.size 24 1 v j ((List.replicate j (0 : Int)).map (Value.int .u64)) ∧ v ≠ .slice none 0 0 ∧ Below w.heap.size w wr) (fun _ i _ => n - (intOf i).toNat)
  case atStart => exact ⟨0, Nat.zero_le _, rfl, World.ownsRow_made w #[] 0 (Nat.le_refl _) (by decide) rfl, by simp, (Below.refl _ _).alloc (Nat.le_refl _) _⟩
  case round =>
    obtain ⟨j, hj, rfl, hown, hnn, hB⟩ := hrel
    by_cases hlt : j < n
    · go_wp2_with (at_builtin; refine wpList_append_own _ rfl _ _ 32 rfl w.heap.size 24 i0 (.int .u64 0) 1 8 Try.underlying32 hi hz0 hz1 hz2 rfl (by decide) _ _ _ rfl (hown.alloc _) ⟨wr.heap.size, 0, none⟩ 1 1 [.int .u64 0] rfl rfl ?c1 ?c2 ?c3 ?c4 ?c5 ?_)
      case c1 =>
        intro j u hj
        match j, hj with
        | 0, hj => simp at hj; subst hj; simp [Addr.add]
      case c2 => intro u hu; simp at hu; subst hu; rfl
      case c3 => unfold maxLen; omega
      case c4 => omega
      case c5 => have := hB.size; simp; omega
      · intro v' w1 hown' hgrow hnil
        have hn2 : v' ≠ .slice none 0 0 := hnil
        have hB1 := (hB.alloc hB.size (.cells #[.int .u64 0] 24)).grown hgrow (by have := hB.size; simp; omega) (fun k e => (hown.lt k e).1)
        have ho2 : w1.ownsRow w.heap.size 24 1 v' (j + 1) ((List.replicate (j + 1) (0 : Int)).map (Value.int .u64)) := by
          rw [List.replicate_succ']; simpa using hown'
        clear hown' hgrow hown hB hnn hnil
        go_wp2
        go_roundw
        case rel => exact ⟨j + 1, by omega, by go_num, ho2, hn2, hB1⟩
        case measure => simp [intOf]; omega
    · obtain rfl : j = n := by omega
      have ho : wr.ownsRow w.heap.size 24 1 u4 (List.replicate j (0 : Int)).length ((List.replicate j (0 : Int)).map (Value.int .u64)) := by simpa using hown
      obtain ⟨a, cap, hv, hrd, hbl, _⟩ := owns_reads ho
      have hown' := hown
      clear hown ho
      rw [List.length_replicate] at hv
      have han : a ≠ none := by
        rintro rfl
        rcases hown'.2 with ⟨h, _⟩ | ⟨g, cap', cur, h, _⟩
        · exact hnn h
        · rw [hv] at h; simp at h
      clear hown' hnn
      subst hv
      go_wp2
      go_ret2
      exact ⟨a, cap, by simp, hB, hrd, han, .inr fun q hq => (hbl q hq).1⟩

theorem rNew_bad (n : Int) (w : World) (h : n < 0 ∨ 16384 < n) :
    Calls Try.prog 15 #[.int .i64 n] w fun e w' => e = .returned (.tuple #[.slice (some ⟨w.heap.size, 0, none⟩) 0 0, .int .i64 1]) ∧ Below w.heap.size w w' := by
  rcases h with h | h
  all_goals
    go_enter Try.func15, Try.ntmps15
    go_wp2
    go_ret2
    exact ⟨rfl, (Below.refl _ _).alloc (Nat.le_refl _) _⟩
theorem own_shape {w : World} {B : Nat} {t : TypeId} {v : Value} {n : Nat} {vs : List Value} (h : w.ownsRow B t 1 v n vs) (hn : 0 < n) :
    ∃ g cap cur, v = .slice (some ⟨g, 0, none⟩) n cap ∧ B ≤ g ∧ w.heap[g]? = some (.cells cur t (0, 0)) := by
  rcases h.2 with ⟨_, h0⟩ | ⟨g, cap, cur, rfl, hB, hg, _⟩
  · omega
  · exact ⟨g, cap, cur, rfl, hB, hg⟩
theorem own_set {k : IntKind} {w : World} {B : Nat} {t : TypeId} {g cap : Nat} {xs : List Int} (h : w.ownsRow B t 1 (.slice (some ⟨g, 0, none⟩) xs.length cap) xs.length (xs.map (Value.int k))) (i : Nat) (v : Int) (_hi : i < xs.length) :
    (w.setCell ⟨g, i, none⟩ (.int k v)).ownsRow B t 1 (.slice (some ⟨g, 0, none⟩) xs.length cap) xs.length ((xs.set i v).map (Value.int k)) := by
  have := (h.stored i (.int k v)).1
  rw [List.map_set]
  exact this

theorem rWrite_any (a : Option Addr) (cap : Nat) (xs : List Int) (i v : Int) (w : World) (hR : Reads .u64 w a xs) (hn : xs.length ≤ 16384) (ha : a ≠ none) :
    Calls Try.prog 16 #[.slice a xs.length cap, .int .i64 i, .int .u64 v] w (RetSl .u64 (wrL xs i v) (wrE xs.length i) a w) := by
  rcases (show (0 ≤ i ∧ i < xs.length) ∨ i < 0 ∨ xs.length ≤ i by omega) with ⟨h0, h1⟩ | h0 | h0
  · obtain ⟨i, rfl⟩ := Int.eq_ofNat_of_zero_le h0
    have hi : i < xs.length := by omega
    obtain ⟨b, off, rfl, hc⟩ := hR.at_ i hi
    have e1 : Hid (wrL xs i v = xs.set i v) := by show _ = _; simp [wrL, inB, hi]
    have e2 : Hid (wrE xs.length i = 0) := by show _ = _; simp [wrE, inB, hi]
    obtain ⟨i0, hi0, hz0, hz1, hz2⟩ := info_parts info_u64
    have hcs := Lib.hid (cells_of_reads hR)
    clear hc
    go_enter Try.func16, Try.ntmps16
    go_wp2_with (at_builtin; refine wpList_append_own _ rfl _ _ 32 rfl w.heap.size 24 i0 (.int .u64 0) 1 8 Try.underlying32 hi0 hz0 hz1 hz2 rfl (by decide) _ _ _ rfl (World.ownsRow_made w #[] 0 (Nat.le_refl _) (by decide) rfl) ⟨b, off, none⟩ xs.length cap (xs.map (Value.int .u64)) rfl ?c0 ?c1 ?c2 ?c3 ?c4 ?c5 ?_)
    case c0 => simp
    case c1 => exact fun j u hj => (cell_alloc_old _ (hcs.out j u hj))
    case c2 => exact ints_oneCell _ _
    case c3 => unfold maxLen; omega
    case c4 => omega
    case c5 => simp
    · intro v' w1 hown' hgrow _
      have hB1 := ((Below.refl w.heap.size w).alloc (Nat.le_refl _) (.cells #[] 24)).grown hgrow (by simp) (fun k e => by simp [Value.ownBlock] at e; omega)
      have ho : w1.ownsRow w.heap.size 24 1 v' xs.length (xs.map (Value.int .u64)) := by simpa using hown'
      clear hown' hgrow
      obtain ⟨g, cap2, cur, rfl, hBg, hg⟩ := own_shape ho (by omega)
      have hcl : w1.cell? ⟨g, i, none⟩ = some (.int .u64 (xs[i]'hi)) := (ho.cellAt (g := g) i (by omega)).trans (by simp [hi])
      have hfr := ho.frozenAt (g := g) i
      have i1 : (i : Int) < (xs.length : Int) := by omega
      have hst := Lib.hid (own_set ho i v hi)
      clear ho hg hcs hR
      go_wp2
      go_ret2
      rw [e1.out, e2.out]
      obtain ⟨a, cap3, hv, hrd, hbl, _⟩ := owns_reads (show (w1.setCell ⟨g, i, none⟩ (.int .u64 v)).ownsRow w.heap.size 24 1 (.slice (some ⟨g, 0, none⟩) xs.length cap2) (xs.set i v).length ((xs.set i v).map (Value.int .u64)) by simpa using hst.out)
      simp at hv
      obtain ⟨rfl, rfl⟩ := hv
      exact ⟨some ⟨g, 0, none⟩, cap2, by simp, hB1.setCell hBg _, hrd, by simp, .inr fun q hq => (hbl q hq).1⟩
  all_goals
    have e1 : Hid (wrL xs i v = xs) := by show _ = _; simp [wrL, inB]; omega
    have e2 : Hid (wrE xs.length i = 8) := by show _ = _; simp [wrE, inB]; omega
    go_enter Try.func16, Try.ntmps16
    go_wp2
    go_ret2
    rw [e1.out, e2.out]
    exact ⟨_, _, rfl, Below.refl _ _, hR, ha, .inl rfl⟩
theorem fillL_nil (xs : List Int) (f : Nat) (v : Int) : fillL xs f ((0 : Nat) : Int) v = xs := by
  unfold fillL; split <;> simp
theorem fillL_step (xs : List Int) (f j : Nat) (v : Int) (h : f + j < xs.length) : (fillL xs f j v).set (f + j) v = fillL xs f ((j + 1 : Nat) : Int) v := by
  apply List.ext_getElem?
  intro q
  rw [List.getElem?_set, fillL_length, fillL_get1 _ _ _ _ _ (by omega), fillL_get1 _ _ _ _ _ (by omega)]
  by_cases e : f + j = q
  · rw [if_pos e, if_pos (by omega), if_pos (by omega)]
  · rw [if_neg e]
    by_cases e2 : f ≤ q ∧ q < f + j
    · rw [if_pos e2, if_pos (by omega)]
    · rw [if_neg e2, if_neg (by omega)]
theorem moveL_nil (xs : List Int) (f to : Nat) : moveL xs f ((0 : Nat) : Int) to = xs := by
  unfold moveL; split <;> simp
theorem moveL_step (xs : List Int) (f j to : Nat) (hf : f + j < xs.length) (ht : to + j < xs.length) : (moveL xs f j to).set (to + j) (xs[f + j]?.getD 0) = moveL xs f ((j + 1 : Nat) : Int) to := by
  apply List.ext_getElem?
  intro q
  rw [List.getElem?_set, moveL_length, moveL_get1 _ _ _ _ _ (by omega) (by omega), moveL_get1 _ _ _ _ _ (by omega) (by omega)]
  by_cases e : to + j = q
  · rw [if_pos e, if_pos (by omega), if_pos (by omega), show f + (q - to) = f + j by omega, List.getElem?_eq_getElem hf]
    rfl
  · rw [if_neg e]
    by_cases e2 : to ≤ q ∧ q < to + j
    · rw [if_pos e2, if_pos (by omega)]
    · rw [if_neg e2, if_neg (by omega)]

theorem rFill_any (a : Option Addr) (cap : Nat) (xs : List Int) (f k v : Int) (w : World) (hR : Reads .u64 w a xs) (hn : xs.length ≤ 16384) (ha : a ≠ none) :
    Calls Try.prog 17 #[.slice a xs.length cap, .agg #[.int .i64 f, .int .i64 k], .int .u64 v] w (RetSl .u64 (fillL xs f k v) (fillE xs.length f k) a w) := by
  have hW0 : Below w.heap.size w (w.alloc (.cells #[.int .i64 f, .int .i64 k] 37)) := (Below.refl _ _).alloc (Nat.le_refl _) _
  have k0 := heap_alloc_eq w (.cells #[.int .i64 f, .int .i64 k] 37)
  cases h1 : hasB xs.length f k
  · have e1 : Hid (fillL xs f k v = xs) := by show _ = _; simp [fillL, h1]
    have e2 : Hid (fillE xs.length f k = 8) := by show _ = _; simp [fillE, h1]
    go_enter Try.func17, Try.ntmps17
    go_wp2_with fail
    refine (rHas_any _ _ _ _ _ _ hn).mono ?_
    rw [h1]; rintro e w1 ⟨rfl, hb1⟩; obtain ⟨hc1, hf1, hs1⟩ := bcell hb1; simp only [World.size_alloc] at hs1; have hz1 := Nat.lt_of_succ_le hs1
    go_wp2
    go_ret2
    rw [e1.out, e2.out]
    have hB1 := hW0.trans (hb1.mono (by simp))
    exact ⟨_, _, rfl, hB1, hR.below hB1, ha, .inl rfl⟩
  · have hq := h1
    simp [hasB] at hq
    obtain ⟨q1, q2, q3, q4⟩ := hq
    obtain ⟨f, rfl⟩ := Int.eq_ofNat_of_zero_le q1
    obtain ⟨k, rfl⟩ := Int.eq_ofNat_of_zero_le q2
    have e2 : Hid (fillE xs.length f k = 0) := by show _ = _; simp [fillE, h1]
    go_enter Try.func17, Try.ntmps17
    go_wp2_with fail
    refine (rHas_any _ _ _ _ _ _ hn).mono ?_
    rw [h1]; rintro e w1 ⟨rfl, hb1⟩; obtain ⟨hc1, hf1, hs1⟩ := bcell hb1; simp only [World.size_alloc] at hs1; have hz1 := Nat.lt_of_succ_le hs1
    have hb2 := Below.refl w1.heap.size w1
    have hw12 : w1 = w1 := rfl
    obtain ⟨ad, rfl⟩ : ∃ q, a = some q := by cases a; exact absurd rfl ha; exact ⟨_, rfl⟩
    have hBw : Below w.heap.size w w1 := hW0.trans (hb1.mono (by simp))
    have kb := heap_below hb1 k0 (by simp)
    have c0 := heap_cell kb 0
    have c1 := heap_cell kb 1
    simp at c0 c1
    have hRw := hR.below hBw
    have hcs := Lib.hid (cells_of_reads hRw)
    obtain ⟨i0, hi0, hz0, hz1', hz2⟩ := info_parts info_u64
    clear hc1 hf1
    go_wp2_with (at_builtin; refine wpList_append_own _ rfl _ _ 32 rfl w1.heap.size 24 i0 (.int .u64 0) 1 8 Try.underlying32 hi0 hz0 hz1' hz2 rfl (by decide) _ _ _ rfl (World.ownsRow_made w1 #[] 0 (Nat.le_refl _) (by decide) rfl) ad xs.length cap (xs.map (Value.int .u64)) rfl ?d0 ?d1 ?d2 ?d3 ?d4 ?d5 ?_)
    case d0 => simp
    case d1 => exact fun j u hj => (cell_alloc_old _ (hcs.out j u hj))
    case d2 => exact ints_oneCell _ _
    case d3 => unfold maxLen; omega
    case d4 => omega
    case d5 => simp
    · intro v' w3 hown' hgrow hnil
      have hB3 : Below w1.heap.size w1 w3 := ((Below.refl w1.heap.size w1).alloc (Nat.le_refl _) (.cells #[] 24)).grown hgrow (by simp) (fun q e => by simp [Value.ownBlock] at e; omega)
      have ho : w3.ownsRow w1.heap.size 24 1 v' xs.length (xs.map (Value.int .u64)) := by simpa using hown'
      obtain ⟨ao, cap2, hvo, _, _, _⟩ := owns_reads ho
      have hao : ao ≠ none := by
        rintro rfl
        rcases hown'.2 with ⟨h, _⟩ | ⟨g, cap', cur, h, _⟩
        · exact hnil h
        · rw [hvo] at h; simp at h
      subst hvo
      clear hnil
      clear hown' hgrow
      go_wp2
      go_loopw [9] (fun i wr => ∃ j : Nat, j ≤ k ∧ i = .int .i64 j ∧ wr.ownsRow w1.heap.size 24 1 (.slice ao xs.length cap2) xs.length ((fillL xs f j v).map (Value.int .u64)) ∧ Below w1.heap.size w1 wr) (fun i _ => k - (intOf i).toNat)
      case atStart => exact ⟨0, Nat.zero_le _, rfl, by rw [fillL_nil]; exact ho, hB3⟩
      case round =>
        obtain ⟨j, hj, rfl, hown, hBr⟩ := hrel
        have kr := heap_below hBr kb (heap_lt kb)
        have r0 := heap_cell kr 0
        have r1 := heap_cell kr 1
        simp at r0 r1
        by_cases hlt : j < k
        · obtain ⟨g, cap3, cur, hshape, hBg, hg⟩ := own_shape hown (by omega)
          simp at hshape
          obtain ⟨rfl, rfl⟩ := hshape
          have hlen : (fillL xs f j v).length = xs.length := fillL_length _ _ _ _
          have hi : f + j < xs.length := by omega
          have hcl : wr.cell? ⟨g, f + j, none⟩ = some (.int .u64 ((fillL xs f j v)[f + j]'(by omega))) := (hown.cellAt (g := g) (f + j) (by omega)).trans (by simp [hlen, hi])
          have hfr := hown.frozenAt (g := g) (f + j)
          have i1 : (f : Int) + (j : Int) < (xs.length : Int) := by omega
          have i2 : ((f : Int) + (j : Int)).toNat = f + j := by omega
          have hst := Lib.hid (show (wr.setCell ⟨g, f + j, none⟩ (.int .u64 v)).ownsRow w1.heap.size 24 1 (.slice (some ⟨g, 0, none⟩) xs.length cap2) xs.length ((fillL xs f ((j + 1 : Nat) : Int) v).map (Value.int .u64)) from by
            have := (hown.stored (f + j) (.int .u64 v)).1
            rw [← fillL_step _ _ _ _ (by omega), List.map_set]
            exact this)
          clear hown hg ho hcs kr hR hRw 
          go_wp2
          go_roundw
          case rel => exact ⟨j + 1, by omega, by go_num, hst.out, hBr.setCell hBg _⟩
          case measure => simp [intOf]; omega
        · obtain rfl : j = k := by omega
          obtain ⟨a, cap3, hv, hrd, hbl, _⟩ := owns_reads (show wr.ownsRow w1.heap.size 24 1 (.slice ao xs.length cap2) (fillL xs f j v).length ((fillL xs f j v).map (Value.int .u64)) by rw [fillL_length]; exact hown)
          simp at hv
          obtain ⟨rfl, _, rfl⟩ := hv
          clear hown hR hRw hcs
          go_wp2
          go_ret2
          rw [e2.out]
          exact ⟨_, cap2, by rw [fillL_length]; rfl, hBw.trans (hBr.mono hBw.size), hrd, hao, .inr fun q hq => Nat.le_trans hBw.size (hbl q hq).1⟩

theorem rMove_any (a : Option Addr) (cap : Nat) (xs : List Int) (f k to : Int) (w : World) (hR : Reads .u64 w a xs) (hn : xs.length ≤ 16384) (ha : a ≠ none) :
    Calls Try.prog 18 #[.slice a xs.length cap, .agg #[.int .i64 f, .int .i64 k], .int .i64 to] w (RetSl .u64 (moveL xs f k to) (moveE xs.length f k to) a w) := by
  have hW0 : Below w.heap.size w (w.alloc (.cells #[.int .i64 f, .int .i64 k] 37)) := (Below.refl _ _).alloc (Nat.le_refl _) _
  have k0 := heap_alloc_eq w (.cells #[.int .i64 f, .int .i64 k] 37)
  cases h1 : hasB xs.length f k
  · have e1 : Hid (moveL xs f k to = xs) := by show _ = _; simp [moveL, moveB, h1]
    have e2 : Hid (moveE xs.length f k to = 8) := by show _ = _; simp [moveE, moveB, h1]
    go_enter Try.func18, Try.ntmps18
    go_wp2_with fail
    refine (rHas_any _ _ _ _ _ _ hn).mono ?_
    rw [h1]; rintro e w1 ⟨rfl, hb1⟩; obtain ⟨hc1, hf1, hs1⟩ := bcell hb1; simp only [World.size_alloc] at hs1; have hz1 := Nat.lt_of_succ_le hs1
    go_wp2
    go_ret2
    rw [e1.out, e2.out]
    have hB1 := hW0.trans (hb1.mono (by simp))
    exact ⟨_, _, rfl, hB1, hR.below hB1, ha, .inl rfl⟩
  · cases h2 : hasB xs.length to k
    · have e1 : Hid (moveL xs f k to = xs) := by show _ = _; simp [moveL, moveB, h2]
      have e2 : Hid (moveE xs.length f k to = 8) := by show _ = _; simp [moveE, moveB, h2]
      go_enter Try.func18, Try.ntmps18
      go_wp2_with fail
      refine (rHas_any _ _ _ _ _ _ hn).mono ?_
      rw [h1]; rintro e w1 ⟨rfl, hb1⟩; obtain ⟨hc1, hf1, hs1⟩ := bcell hb1; simp only [World.size_alloc] at hs1; have hz1 := Nat.lt_of_succ_le hs1
      go_wp2_with fail
      refine (rHas_any _ _ _ _ _ _ hn).mono ?_
      rw [h2]; rintro e w2 ⟨rfl, hb2⟩
      go_wp2
      go_ret2
      rw [e1.out, e2.out]
      have hB1 := (hW0.trans (hb1.mono (by simp))).trans (hb2.mono (by omega))
      exact ⟨_, _, rfl, hB1, hR.below hB1, ha, .inl rfl⟩
    · have hq := h1
      have hq2 := h2
      simp [hasB] at hq hq2
      obtain ⟨q1, q2, q3, q4⟩ := hq
      obtain ⟨t1, _, t3, t4⟩ := hq2
      obtain ⟨f, rfl⟩ := Int.eq_ofNat_of_zero_le q1
      obtain ⟨k, rfl⟩ := Int.eq_ofNat_of_zero_le q2
      obtain ⟨to, rfl⟩ := Int.eq_ofNat_of_zero_le t1
      have e2 : Hid (moveE xs.length f k to = 0) := by show _ = _; simp [moveE, moveB, h1, h2]
      go_enter Try.func18, Try.ntmps18
      go_wp2_with fail
      refine (rHas_any _ _ _ _ _ _ hn).mono ?_
      rw [h1]; rintro e w1 ⟨rfl, hb1⟩; obtain ⟨hc1, hf1, hs1⟩ := bcell hb1; simp only [World.size_alloc] at hs1; have hz1 := Nat.lt_of_succ_le hs1
      go_wp2_with fail
      refine (rHas_any _ _ _ _ _ _ hn).mono ?_
      rw [h2]; rintro e w2 ⟨rfl, hb2⟩
      obtain ⟨ad, rfl⟩ : ∃ q, a = some q := by cases a; exact absurd rfl ha; exact ⟨_, rfl⟩
      have hBw : Below w.heap.size w w2 := (hW0.trans (hb1.mono (by simp))).trans (hb2.mono (by omega))
      have kb := heap_below hb2 (heap_below hb1 k0 (by simp)) (by omega)
      have c0 := heap_cell kb 0
      have c1 := heap_cell kb 1
      simp at c0 c1
      have hRw := hR.below hBw
      have hcs := Lib.hid (cells_of_reads hRw)
      obtain ⟨i0, hi0, hz0, hz1', hz2⟩ := info_parts info_u64
      clear hc1 hf1
      go_wp2_with (at_builtin; refine wpList_append_own _ rfl _ _ 32 rfl w2.heap.size 24 i0 (.int .u64 0) 1 8 Try.underlying32 hi0 hz0 hz1' hz2 rfl (by decide) _ _ _ rfl (World.ownsRow_made w2 #[] 0 (Nat.le_refl _) (by decide) rfl) ad xs.length cap (xs.map (Value.int .u64)) rfl ?d0 ?d1 ?d2 ?d3 ?d4 ?d5 ?_)
      case d0 => simp
      case d1 => exact fun j u hj => (cell_alloc_old _ (hcs.out j u hj))
      case d2 => exact ints_oneCell _ _
      case d3 => unfold maxLen; omega
      case d4 => omega
      case d5 => simp
      · intro v' w3 hown' hgrow hnil
        have hB3 : Below w2.heap.size w2 w3 := ((Below.refl w2.heap.size w2).alloc (Nat.le_refl _) (.cells #[] 24)).grown hgrow (by simp) (fun q e => by simp [Value.ownBlock] at e; omega)
        have ho : w3.ownsRow w2.heap.size 24 1 v' xs.length (xs.map (Value.int .u64)) := by simpa using hown'
        obtain ⟨ao, cap2, hvo, _, _, _⟩ := owns_reads ho
        have hao : ao ≠ none := by
          rintro rfl
          rcases hown'.2 with ⟨h, _⟩ | ⟨g, cap', cur, h, _⟩
          · exact hnil h
          · rw [hvo] at h; simp at h
        subst hvo
        clear hnil
        clear hown' hgrow
        go_wp2
        go_loopw [9] (fun i wr => ∃ j : Nat, j ≤ k ∧ i = .int .i64 j ∧ wr.ownsRow w2.heap.size 24 1 (.slice ao xs.length cap2) xs.length ((moveL xs f j to).map (Value.int .u64)) ∧ Below w2.heap.size w2 wr) (fun i _ => k - (intOf i).toNat)
        case atStart => exact ⟨0, Nat.zero_le _, rfl, by rw [moveL_nil]; exact ho, hB3⟩
        case round =>
          obtain ⟨j, hj, rfl, hown, hBr⟩ := hrel
          have kr := heap_below hBr kb (heap_lt kb)
          have r0 := heap_cell kr 0
          have r1 := heap_cell kr 1
          simp at r0 r1
          by_cases hlt : j < k
          · obtain ⟨g, cap3, cur, hshape, hBg, hg⟩ := own_shape hown (by omega)
            simp at hshape
            obtain ⟨rfl, rfl⟩ := hshape
            have hlen : (moveL xs f j to).length = xs.length := moveL_length _ _ _ _
            have hi : to + j < xs.length := by omega
            have hcl : wr.cell? ⟨g, to + j, none⟩ = some (.int .u64 ((moveL xs f j to)[to + j]'(by omega))) := (hown.cellAt (g := g) (to + j) (by omega)).trans (by simp [hlen, hi])
            have hfr := hown.frozenAt (g := g) (to + j)
            have i1 : (to : Int) + (j : Int) < (xs.length : Int) := by omega
            have i2 : ((to : Int) + (j : Int)).toNat = to + j := by omega
            obtain ⟨bs, os, hae, hsrc⟩ := hRw.at_ (f + j) (by omega)
            obtain rfl := Option.some.inj hae
            have hsrc2 := (hBr.cell (cell_lt hsrc)).trans hsrc
            obtain ⟨y, hy⟩ : ∃ y, xs[f + j]?.getD 0 = y := ⟨_, rfl⟩
            rw [hy] at hsrc2
            have j1 : (f : Int) + (j : Int) < (xs.length : Int) := by omega
            have j2 : ((f : Int) + (j : Int)).toNat = f + j := by omega
            have hst := Lib.hid (show (wr.setCell ⟨g, to + j, none⟩ (.int .u64 y)).ownsRow w2.heap.size 24 1 (.slice (some ⟨g, 0, none⟩) xs.length cap2) xs.length ((moveL xs f ((j + 1 : Nat) : Int) to).map (Value.int .u64)) from by
              have := (hown.stored (to + j) (.int .u64 y)).1
              rw [← moveL_step _ _ _ _ (by omega) (by omega), hy, List.map_set]
              exact this)
            clear hown hg ho hcs kr hR hRw hsrc
            go_wp2
            go_roundw
            case rel => exact ⟨j + 1, by omega, by go_num, hst.out, hBr.setCell hBg _⟩
            case measure => simp [intOf]; omega
          · obtain rfl : j = k := by omega
            obtain ⟨a, cap3, hv, hrd, hbl, _⟩ := owns_reads (show wr.ownsRow w2.heap.size 24 1 (.slice ao xs.length cap2) (moveL xs f j to).length ((moveL xs f j to).map (Value.int .u64)) by rw [moveL_length]; exact hown)
            simp at hv
            obtain ⟨rfl, _, rfl⟩ := hv
            clear hown hR hRw hcs
            go_wp2
            go_ret2
            rw [e2.out]
            exact ⟨_, cap2, by rw [moveL_length]; rfl, hBw.trans (hBr.mono hBw.size), hrd, hao, .inr fun q hq => Nat.le_trans hBw.size (hbl q hq).1⟩
end Go.Proofs.Ytennhifmhlmjhaa
