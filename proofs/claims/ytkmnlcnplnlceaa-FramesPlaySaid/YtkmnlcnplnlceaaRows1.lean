/-
  The document's rows of words: what they are in the model; kraalref16.
-/
import Derived.Test.YtkmnlcnplnlceaaStack4
import Derived.OwnWalk
namespace Go.Proofs.Ytkmnlcnplnlceaa
open Go Go.RowKit

theorem info_row : (Try.prog.info? 31).map (fun i => (i.zero, i.size, i.bytes)) = some (some (.slice none 0 0), 1, 24) := by kernel_rfl

/-- A row of words, in blocks of R. -/
def RowAt (w : World) (R : Nat → Prop) (v : Value) (xs : List Int) : Prop :=
  ∃ b off cap, v = .slice (some ⟨b, off, none⟩) xs.length cap ∧ Reads .u64 w (some ⟨b, off, none⟩) xs ∧ R b ∧ b < w.heap.size ∧ xs.length ≤ 16
/-- A row of rows of words. -/
def RowsAt (w : World) (R : Nat → Prop) (v : Value) (xss : List (List Int)) : Prop :=
  ∃ (b off cap : Nat) (us : List Value), v = .slice (some ⟨b, off, none⟩) xss.length cap ∧ us.length = xss.length ∧ xss.length ≤ cap ∧ R b ∧ b < w.heap.size ∧ (∀ (i : Nat) u, us[i]? = some u → w.cell? ⟨b, off + i, none⟩ = some u) ∧ ∀ (i : Nat) u xs, us[i]? = some u → xss[i]? = some xs → RowAt w R u xs

theorem RowAt.moved {w w' : World} {R R' S : Nat → Prop} {v : Value} {xs : List Int} (h : RowAt w R v xs) (hm : Moved S w w') (hd : ∀ k, k < w.heap.size → R k → ¬ S k) (hR : ∀ k, k < w.heap.size → R k → R' k) : RowAt w' R' v xs := by
  obtain ⟨b, off, cap, rfl, h1, h2, h3, h4⟩ := h
  exact ⟨b, off, cap, rfl, hm.reads h1 (fun q e => by cases e; exact hd b h3 h2), hR b h3 h2, Nat.lt_of_lt_of_le h3 hm.size, h4⟩
theorem RowsAt.moved {w w' : World} {R R' S : Nat → Prop} {v : Value} {xss : List (List Int)} (h : RowsAt w R v xss) (hm : Moved S w w') (hd : ∀ k, k < w.heap.size → R k → ¬ S k) (hR : ∀ k, k < w.heap.size → R k → R' k) : RowsAt w' R' v xss := by
  obtain ⟨b, off, cap, us, rfl, h1, hc, h2, h3, h4, h5⟩ := h
  exact ⟨b, off, cap, us, rfl, h1, hc, hR b h3 h2, Nat.lt_of_lt_of_le h3 hm.size, fun i u hu => hm.cell (h4 i u hu) (hd b h3 h2), fun i u xs hu hx => (h5 i u xs hu hx).moved hm hd hR⟩
theorem RowAt.below {w w' : World} {R : Nat → Prop} {v : Value} {xs : List Int} (h : RowAt w R v xs) (hb : Below w.heap.size w w') : RowAt w' R v xs :=
  h.moved (Moved.of_below hb (fun _ => False)) (fun _ _ _ e => e) (fun _ _ h => h)
theorem RowsAt.below {w w' : World} {R : Nat → Prop} {v : Value} {xss : List (List Int)} (h : RowsAt w R v xss) (hb : Below w.heap.size w w') : RowsAt w' R v xss :=
  h.moved (Moved.of_below hb (fun _ => False)) (fun _ _ _ e => e) (fun _ _ h => h)
theorem RowAt.weak {w : World} {R R' : Nat → Prop} {v : Value} {xs : List Int} (h : RowAt w R v xs) (hR : ∀ k, k < w.heap.size → R k → R' k) : RowAt w R' v xs :=
  h.moved (Moved.refl (fun _ => False) w) (fun _ _ _ e => e) hR
theorem RowsAt.weak {w : World} {R R' : Nat → Prop} {v : Value} {xss : List (List Int)} (h : RowsAt w R v xss) (hR : ∀ k, k < w.heap.size → R k → R' k) : RowsAt w R' v xss :=
  h.moved (Moved.refl (fun _ => False) w) (fun _ _ _ e => e) hR

/-- What is owned is a row of rows. -/
theorem rows_of_owns {w : World} {B : Nat} {R : Nat → Prop} {v : Value} {us : List Value} {xss : List (List Int)} (h : w.ownsRow B 31 1 v us.length us) (hl : us.length = xss.length) (hp : 0 < us.length) (hR : ∀ k, B ≤ k → R k) (hr : ∀ (i : Nat) u xs, us[i]? = some u → xss[i]? = some xs → RowAt w R u xs) : RowsAt w R v xss := by
  rcases h.2 with ⟨_, h0⟩ | ⟨g, cap, cur, rfl, hB, hg, hn, hm, hs, ht⟩
  · omega
  · refine ⟨g, 0, cap, us, by rw [hl], hl, by omega, hR g hB, heap_lt hg, fun i u hu => ?_, hr⟩
    have hi : i < us.length := (List.getElem?_eq_some_iff.1 hu).1
    rw [Nat.zero_add, heap_cell hg]
    have : (cur.toList.take (us.length * 1))[i]? = us[i]? := by rw [ht]
    rw [Nat.mul_one, List.getElem?_take, if_pos hi] at this
    simpa [hu] using this
theorem RowAt.oneCell {w : World} {R : Nat → Prop} {v : Value} {xs : List Int} (h : RowAt w R v xs) : v.oneCell' = true := by
  obtain ⟨b, off, cap, rfl, _⟩ := h
  rfl

set_option maxHeartbeats 1000000 in
theorem r16New_any (n : Nat) (w : World) (hn : n ≤ 16) :
    Calls Try.prog 19 #[.int .i64 n] w fun e w' => ∃ v, e = .returned (.tuple #[v, .int .i64 0]) ∧ Below w.heap.size w w' ∧ RowAt w' (fun k => w.heap.size ≤ k) v (List.replicate n 0) := by
  obtain ⟨i0, hi, hz0, hz1, hz2⟩ := info_parts info_u64
  go_enter Try.func19, Try.ntmps19
  go_wp2
  go_loopw [4, 5] (fun v i wr => ∃ j : Nat, j ≤ n ∧ i = .int .i64 j ∧ wr.ownsRow w.heap.size 23 1 v j ((List.replicate j (0 : Int)).map (Value.int .u64)) ∧ v ≠ .slice none 0 0 ∧ Below w.heap.size w wr) (fun _ i _ => n - (intOf i).toNat)
  case atStart => exact ⟨0, Nat.zero_le _, rfl, World.ownsRow_made w #[] 0 (Nat.le_refl _) (by decide) rfl, by simp, (Below.refl _ _).alloc (Nat.le_refl _) _⟩
  case round =>
    obtain ⟨j, hj, rfl, hown, hnn, hB⟩ := hrel
    by_cases hlt : j < n
    · go_wp2_with (at_builtin; refine wpList_append_own _ rfl _ _ 31 rfl w.heap.size 23 i0 (.int .u64 0) 1 8 Try.underlying31 hi hz0 hz1 hz2 rfl (by decide) _ _ _ rfl (hown.alloc _) ⟨wr.heap.size, 0, none⟩ 1 1 [.int .u64 0] rfl rfl ?c1 ?c2 ?c3 ?c4 ?c5 ?_)
      case c1 =>
        intro j u hj
        match j, hj with
        | 0, hj => simp at hj; subst hj; simp [Addr.add]
      case c2 => intro u hu; simp at hu; subst hu; rfl
      case c3 => unfold maxLen; omega
      case c4 => omega
      case c5 => have := hB.size; simp; omega
      · intro v' w1 hown' hgrow hnil
        have hn2 : v' ≠ .slice none 0 0 := hnil
        have hB1 := (hB.alloc hB.size (.cells #[.int .u64 0] 23)).grown hgrow (by have := hB.size; simp; omega) (fun k e => (hown.lt k e).1)
        have ho2 : w1.ownsRow w.heap.size 23 1 v' (j + 1) ((List.replicate (j + 1) (0 : Int)).map (Value.int .u64)) := by
          rw [List.replicate_succ']; simpa using hown'
        clear hown' hgrow hown hB hnn hnil
        go_wp2
        go_roundw
        case rel => exact ⟨j + 1, by omega, by go_num, ho2, hn2, hB1⟩
        case measure => simp [intOf]; omega
    · obtain rfl : j = n := by omega
      have ho : wr.ownsRow w.heap.size 23 1 u4 (List.replicate j (0 : Int)).length ((List.replicate j (0 : Int)).map (Value.int .u64)) := by simpa using hown
      have hrow : RowAt wr (fun k => w.heap.size ≤ k) u4 (List.replicate j 0) := by
        obtain ⟨a, cap, hv, hrd, hbl, _⟩ := owns_reads ho
        rcases ho.2 with ⟨h, _⟩ | ⟨g, cap', cur, h, hB', hg', _⟩
        · exact absurd h hnn
        · rw [hv] at h
          simp only [Value.slice.injEq] at h
          obtain ⟨rfl, _, rfl⟩ := h
          exact ⟨g, 0, cap, hv, hrd, hB', heap_lt hg', by simpa using hn⟩
      clear hown ho hnn
      go_wp2
      go_ret2
      exact ⟨u4, rfl, hB, hrow⟩

theorem r16Get_any {R : Nat → Prop} {v : Value} {xs : List Int} (i : Int) (w : World) (h : RowAt w R v xs) (h0 : 0 ≤ i) (h1 : i ≤ 18446744073709551615) :
    Calls Try.prog 23 #[v, .int .u64 i] w fun e w' => e = .returned (.tuple #[.int .u64 ((xs[i.toNat]?).getD 0), .int .i64 (if i < xs.length then 0 else 8)]) ∧ w' = w := by
  obtain ⟨b, off, cap, rfl, hr, _, _, hl⟩ := h
  have hw : IntKind.u64.wrap (xs.length : Int) = xs.length := by rw [IntKind.wrap_u64]; omega
  by_cases hi : i < xs.length
  · obtain ⟨i, rfl⟩ := Int.eq_ofNat_of_zero_le h0
    have hi' : i < xs.length := by omega
    obtain ⟨b', off', he, hc⟩ := hr.at_ i hi'
    cases he
    have hw2 : IntKind.i64.wrap (i : Int) = i := by rw [IntKind.wrap_i64]; omega
    rw [if_pos hi, Int.toNat_natCast]
    obtain ⟨v, hv⟩ : ∃ v, xs[i]?.getD 0 = v := ⟨_, rfl⟩
    rw [hv] at hc ⊢
    clear hv hr
    go_enter Try.func23, Try.ntmps23
    go_wp2
    go_ret2
    exact ⟨rfl, rfl⟩
  · rw [if_neg hi, List.getElem?_eq_none (by omega)]
    clear hr
    go_enter Try.func23, Try.ntmps23
    go_wp2
    go_ret2
    exact ⟨rfl, rfl⟩

set_option maxHeartbeats 1000000 in
theorem r16Set_any {R : Nat → Prop} {u : Value} {xs : List Int} (i v : Int) (w : World) (h : RowAt w R u xs) (h0 : 0 ≤ i) (h1 : i ≤ 18446744073709551615) :
    Calls Try.prog 22 #[u, .int .u64 i, .int .u64 v] w fun e w' => ∃ u', e = .returned (.tuple #[u', .int .u64 ((xs[i.toNat]?).getD 0), .int .i64 (if i < xs.length then 0 else 8)]) ∧ Below w.heap.size w w' ∧ RowAt w' (fun k => R k ∨ w.heap.size ≤ k) u' (xs.set i.toNat v) := by
  have hg := r16Get_any i w h h0 h1
  have H := Lib.hid h
  obtain ⟨b, off, cap, rfl, hr, _, hlt, hl⟩ := h
  by_cases hi : i < xs.length
  · obtain ⟨i, rfl⟩ := Int.eq_ofNat_of_zero_le h0
    have hi' : i < xs.length := by omega
    rw [if_pos hi] at hg ⊢
    rw [Int.toNat_natCast] at hg ⊢
    obtain ⟨x, hx⟩ : ∃ x, xs[i]?.getD 0 = x := ⟨_, rfl⟩
    rw [hx] at hg ⊢
    clear hx
    obtain ⟨i0, hi0, hz0, hz1, hz2⟩ := info_parts info_u64
    have hcs := Lib.hid (cells_of_reads hr)
    have hw2 : IntKind.i64.wrap (i : Int) = i := by rw [IntKind.wrap_i64]; omega
    go_enter Try.func22, Try.ntmps22
    go_wp2_with fail
    refine hg.mono ?_
    rintro e w1 ⟨rfl, rfl⟩
    go_wp2_with (at_builtin; refine wpList_append_own _ rfl _ _ 31 rfl w1.heap.size 23 i0 (.int .u64 0) 1 8 Try.underlying31 hi0 hz0 hz1 hz2 rfl (by decide) _ _ _ rfl (World.ownsRow_made w1 #[] 0 (Nat.le_refl _) (by decide) rfl) ⟨b, off, none⟩ xs.length cap (xs.map (Value.int .u64)) rfl ?c0 ?c1 ?c2 ?c3 ?c4 ?c5 ?_)
    case c0 => simp
    case c1 => exact fun j u hj => (cell_alloc_old _ (hcs.out j u hj))
    case c2 => exact ints_oneCell _ _
    case c3 => unfold maxLen; omega
    case c4 => omega
    case c5 => simp
    · intro v' w2 hown' hgrow _
      have hB1 := ((Below.refl w1.heap.size w1).alloc (Nat.le_refl _) (.cells #[] 23)).grown hgrow (by simp) (fun k e => by simp [Value.ownBlock] at e; omega)
      have ho : w2.ownsRow w1.heap.size 23 1 v' xs.length (xs.map (Value.int .u64)) := by simpa using hown'
      clear hown' hgrow
      obtain ⟨g, cap2, cur, rfl, hBg, hgg⟩ := own_shape ho (by omega)
      have hcl : w2.cell? ⟨g, i, none⟩ = some (.int .u64 (xs[i]'hi')) := (ho.cellAt (g := g) i (by omega)).trans (by simp [hi'])
      have hfr := ho.frozenAt (g := g) i
      have i1 : (i : Int) < (xs.length : Int) := by omega
      have HO := Lib.hid ho
      clear hcs ho hgg
      go_wp2
      go_ret3
      have hset := own_set HO.out i v hi'
      have hB2 : Below w1.heap.size w1 (w2.setCell ⟨g, i, none⟩ (.int .u64 v)) := hB1.grown (grown_set w2 g i (.int .u64 v)) hB1.size (fun k e => by cases e; exact hBg)
      refine ⟨_, rfl, hB2, ?_⟩
      have hset' : (w2.setCell ⟨g, i, none⟩ (.int .u64 v)).ownsRow w1.heap.size 23 1 (.slice (some ⟨g, 0, none⟩) (xs.set i v).length cap2) (xs.set i v).length ((xs.set i v).map (Value.int .u64)) := by
        rw [List.length_set]; exact hset
      obtain ⟨a, cap', hv, hrd, hbl, _⟩ := owns_reads hset'
      simp only [Value.slice.injEq] at hv
      obtain ⟨rfl, _, rfl⟩ := hv
      exact ⟨g, 0, cap2, by rw [List.length_set]; rfl, hrd, .inr hBg, (hbl _ rfl).2, by rw [List.length_set]; exact hl⟩
  · rw [if_neg hi] at hg ⊢
    rw [List.getElem?_eq_none (by omega)] at hg ⊢
    rw [List.set_eq_of_length_le (by omega)]
    clear hr
    go_enter Try.func22, Try.ntmps22
    go_wp2_with fail
    refine hg.mono ?_
    rintro e w1 ⟨rfl, rfl⟩
    go_wp2
    go_ret3
    exact ⟨_, rfl, Below.refl _ _, H.out.weak (fun _ _ h => .inl h)⟩
end Go.Proofs.Ytkmnlcnplnlceaa
