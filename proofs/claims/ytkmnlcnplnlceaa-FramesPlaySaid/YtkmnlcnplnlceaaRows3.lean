/-
  The document's frames: kraalref17.Set, All.
-/
import Derived.Test.YtkmnlcnplnlceaaRows2
namespace Go.Proofs.Ytkmnlcnplnlceaa
open Go Go.RowKit

set_option maxHeartbeats 1000000 in
theorem r17Set_any {R : Nat → Prop} {x : Value} {xss : List (List Int)} (i v : Int) (w : World) (h : RowsAt w R x xss) (h0 : 0 ≤ i) (h1 : i ≤ 18446744073709551615) (hk : xss.length ≤ 64) :
    Calls Try.prog 12 #[x, .int .u64 i, .int .u64 v] w fun e w' => ∃ x', e = .returned (.tuple #[x', .int .u64 (getV xss i), .int .i64 (getE xss i)]) ∧ Below w.heap.size w w' ∧ RowsAt w' (fun k => R k ∨ w.heap.size ≤ k) x' (setTop xss i v) := by
  rcases List.eq_nil_or_concat xss with rfl | ⟨yss, l, rfl⟩
  · have H := Lib.hid h
    obtain ⟨b, off, cap, us, rfl, hus, hcap, hRb, hbl, hcl, hrow⟩ := h
    rw [getV_nil, getE_nil, setTop_nil]
    clear hcl hrow hus hcap hRb hbl
    go_enter Try.func12, Try.ntmps12
    go_wp2
    go_ret3
    exact ⟨_, rfl, Below.refl _ _, H.out.weak (fun _ _ h => .inl h)⟩
  · rw [List.concat_eq_append] at h hk ⊢
    rw [getV_concat, getE_concat, setTop_concat]
    obtain ⟨b, off, cap, us, rfl, hus, hcap, hRb, hbl, hcl, hrow⟩ := h
    rw [List.length_append, List.length_singleton] at hus hcap hk ⊢
    obtain ⟨m, hm⟩ : ∃ m, yss.length = m := ⟨_, rfl⟩
    rw [hm] at hus hcap hk ⊢
    have hm2 : m < us.length := by omega
    obtain ⟨u, hu⟩ : ∃ u, us[m]? = some u := ⟨_, List.getElem?_eq_getElem hm2⟩
    have hc := hcl m u hu
    have hru := hrow m u l hu (by rw [List.getElem?_append_right (by omega), hm]; simp)
    have hs := r16Set_any i v w hru h0 h1
    have HU := Lib.hid hus
    have HM := Lib.hid hm
    have HR := Lib.hid hrow
    have hcs := Lib.hid (cells_at hcl)
    have hone := Lib.hid (show ∀ u ∈ us.take m, u.oneCell' = true from fun u hu => by
      obtain ⟨i, hi⟩ := List.mem_iff_getElem?.1 (List.mem_of_mem_take hu)
      have hil := (List.getElem?_eq_some_iff.1 hi).1
      exact (hrow i u ((yss ++ [l])[i]'(by simp; omega)) hi (List.getElem?_eq_getElem _)).oneCell)
    obtain ⟨b2, o2, c2, rfl, _⟩ := hru
    have hw : IntKind.i64.wrap (m : Int) = m := by rw [IntKind.wrap_i64]; omega
    have hb0 : ((m : Int) + 1 == 0) = false := by simp; omega
    have i0 : (0 : Int) ≤ (m : Int) := by omega
    have i1 : (m : Int) ≤ (cap : Int) := by omega
    have i2 : (m : Int) < (m : Int) + 1 := by omega
    have hcm : cap ≠ 0 := by omega
    obtain ⟨i0', hi0, hz0, hz1, hz2⟩ := info_parts info_row
    obtain ⟨V, hV⟩ : ∃ V, l[i.toNat]?.getD 0 = V := ⟨_, rfl⟩
    obtain ⟨E, hE⟩ : ∃ E, (if i < (l.length : Int) then (0 : Int) else 8) = E := ⟨_, rfl⟩
    obtain ⟨l', hl'⟩ : ∃ l', l.set i.toNat v = l' := ⟨_, rfl⟩
    rw [hV, hE, hl'] at hs
    rw [hV, hE, hl']
    clear hcl hrow hus hm hu hV hE hl'
    go_enter Try.func12, Try.ntmps12
    go_wp2_with fail
    refine hs.mono ?_
    rintro e w1 ⟨f, rfl, hb1, hf0⟩
    have hF := Lib.hid hf0
    obtain ⟨fb, fo, fc, rfl, _⟩ := hf0
    have HC := Lib.hid (show ∀ j u, us[j]? = some u → w1.cell? ((⟨b, off, none⟩ : Addr).add j) = some u from fun j u hu => (hb1.cell (cell_lt (hcs.out j u hu))).trans (hcs.out j u hu))
    obtain ⟨n, hn⟩ : ∃ n, l'.length = n := ⟨_, rfl⟩
    rw [hn] at hF ⊢
    clear hn hs
    go_wp2_with (at_builtin; refine wpList_append_own _ rfl _ _ 27 rfl w1.heap.size 31 i0' (.slice none 0 0) 1 24 Try.underlying27 hi0 hz0 hz1 hz2 rfl (by decide) _ _ _ rfl (World.ownsRow_made w1 #[] 0 (Nat.le_refl _) (by decide) rfl) ⟨b, off, none⟩ m cap (us.take m) rfl ?c0 ?c1 ?c2 ?c3 ?c4 ?c5 ?_)
    case c0 => rw [List.length_take, HU.out]; omega
    case c1 =>
      intro j u hj
      rw [List.getElem?_take] at hj
      split at hj
      · exact cell_alloc_old _ (HC.out j u hj)
      · cases hj
    case c2 => exact hone.out
    case c3 => unfold maxLen; omega
    case c4 => omega
    case c5 => simp
    · intro v2 w2 ho2 hg2 _
      have hB2 : Below w1.heap.size w1 w2 := ((Below.refl w1.heap.size w1).alloc (Nat.le_refl _) (.cells #[] 31)).grown hg2 (by simp) (fun k e => by simp [Value.ownBlock] at e; omega)
      have ho2' : w2.ownsRow w1.heap.size 31 1 v2 m (us.take m) := by simpa using ho2
      have hsz2 := hB2.size
      clear ho2 hg2
      go_wp2_with (at_builtin; refine wpList_append_own _ rfl _ _ 27 rfl w1.heap.size 31 i0' (.slice none 0 0) 1 24 Try.underlying27 hi0 hz0 hz1 hz2 rfl (by decide) _ _ _ rfl (ho2'.alloc _) ⟨w2.heap.size, 0, none⟩ 1 1 [.slice (some ⟨fb, fo, none⟩) n fc] rfl rfl ?d1 ?d2 ?d3 ?d4 ?d5 ?_)
      case d1 => exact World.news_of_block (cs := #[.slice (some ⟨fb, fo, none⟩) n fc]) (t := 31) (fr := (0, 0)) (heap_alloc_eq w2 _)
      case d2 => intro u hu; simp at hu; subst hu; rfl
      case d3 => unfold maxLen; omega
      case d4 => omega
      case d5 => simp; omega
      · intro v3 w3 ho3 hg3 _
        have hB3 : Below w1.heap.size w1 w3 := (hB2.alloc hsz2 _).grown hg3 (by simp; omega) (fun k e => (ho2'.lt k e).1)
        clear hg3 ho2'
        go_wp2
        go_ret3
        have hbz : Below w.heap.size w w3 := hb1.trans (hB3.mono hb1.size)
        have htl : (us.take m).length = m := by rw [List.length_take, HU.out]; omega
        have hl : (us.take m ++ [Value.slice (some ⟨fb, fo, none⟩) n fc]).length = m + 1 := by rw [List.length_append, htl]; rfl
        refine ⟨v3, rfl, hbz, rows_of_owns (B := w1.heap.size) (us := us.take m ++ [Value.slice (some ⟨fb, fo, none⟩) n fc]) (by rw [hl]; exact ho3) (by rw [hl, List.length_append, HM.out]; rfl) (by rw [hl]; omega) (fun k hk => .inr (by have := hb1.size; omega)) ?_⟩
        intro i u xs hu hx
        rcases Nat.lt_or_ge i m with hi | hi
        · rw [List.getElem?_append_left (by rw [htl]; exact hi), List.getElem?_take, if_pos hi] at hu
          rw [List.getElem?_append_left (by rw [HM.out]; exact hi)] at hx
          exact ((HR.out i u xs hu (by rw [List.getElem?_append_left (by rw [HM.out]; exact hi)]; exact hx)).below hbz).weak (fun _ _ h => .inl h)
        · have hil := (List.getElem?_eq_some_iff.1 hu).1
          rw [hl] at hil
          obtain rfl : i = m := by omega
          rw [List.getElem?_append_right (by rw [htl]; omega), htl] at hu
          rw [List.getElem?_append_right (by rw [HM.out]; omega), HM.out] at hx
          simp at hu hx
          subst hu hx
          exact hF.out.below hB3

set_option maxHeartbeats 1000000 in
theorem r17All_any {R : Nat → Prop} {x : Value} {xss : List (List Int)} (w : World) (h : RowsAt w R x xss) (hk : xss.length ≤ 64) (hl : ∀ l ∈ xss, l.length ≤ 16) :
    Calls Try.prog 16 #[x] w (RetOwn .u64 23 xss.flatten w) := by
  obtain ⟨b, off, cap, us, rfl, hus, hcap, hRb, hbl, hcl, hrow⟩ := h
  obtain ⟨i0, hi, hz0, hz1, hz2⟩ := info_parts info_u64
  obtain ⟨m, hm⟩ : ∃ m, xss.length = m := ⟨_, rfl⟩
  rw [hm] at hus hcap hk ⊢
  have HM := Lib.hid hm
  have HU := Lib.hid hus
  have HR := Lib.hid hrow
  have HC := Lib.hid hcl
  clear hm hus hrow hcl
  go_enter Try.func16, Try.ntmps16
  go_wp2
  go_loopw [3, 4] (fun v i wr => ∃ j : Nat, j ≤ m ∧ i = .int .i64 j ∧ wr.ownsRow w.heap.size 23 1 v (xss.take j).flatten.length ((xss.take j).flatten.map (Value.int .u64)) ∧ Below w.heap.size w wr) (fun _ i _ => m - (intOf i).toNat)
  case atStart => exact ⟨0, Nat.zero_le _, rfl, World.ownsRow_made w #[] 0 (Nat.le_refl _) (by decide) rfl, (Below.refl _ _).alloc (Nat.le_refl _) _⟩
  case round =>
    obtain ⟨j, hj, rfl, hown, hB⟩ := hrel
    by_cases hlt : j < m
    · have hju : j < us.length := by rw [HU.out]; exact hlt
      have hjx : j < xss.length := by rw [HM.out]; exact hlt
      obtain ⟨u, hu⟩ : ∃ u, us[j]? = some u := ⟨_, List.getElem?_eq_getElem hju⟩
      obtain ⟨xs, hx⟩ : ∃ xs, xss[j]? = some xs := ⟨_, List.getElem?_eq_getElem hjx⟩
      have hru := (HR.out j u xs hu hx).below hB
      have hc := (hB.cell (cell_lt (HC.out j u hu))).trans (HC.out j u hu)
      obtain ⟨b2, o2, c2, rfl, hr2, _, _, hl2⟩ := hru
      have hcs := Lib.hid (cells_of_reads hr2)
      have hfl : (xss.take (j + 1)).flatten = (xss.take j).flatten ++ xs := by
        rw [List.take_add_one, hx, List.flatten_append]; simp
      have hF := Lib.hid hfl
      have hflen : (xss.take j).flatten.length ≤ 1024 := by
        have h1 := flat_len (xss := xss.take j) (fun l hl' => hl l (List.mem_of_mem_take hl'))
        rw [List.length_take] at h1
        omega
      obtain ⟨zs, hzs⟩ : ∃ zs, (xss.take j).flatten = zs := ⟨_, rfl⟩
      rw [hzs] at hown hflen hF
      clear hfl hzs hr2 hu hx
      go_wp2_with (at_builtin; refine wpList_append_own _ rfl _ _ 31 rfl w.heap.size 23 i0 (.int .u64 0) 1 8 Try.underlying31 hi hz0 hz1 hz2 rfl (by decide) _ _ _ rfl hown ⟨b2, o2, none⟩ xs.length c2 (xs.map (Value.int .u64)) rfl ?c0 ?c1 ?c2 ?c3 ?c4 ?c5 ?_)
      case c0 => simp
      case c1 => exact fun j u hj => hcs.out j u hj
      case c2 => exact ints_oneCell _ _
      case c3 => unfold maxLen; omega
      case c4 => omega
      case c5 => exact hB.size
      · intro v' w1 hown' hgrow _
        have hB1 := hB.grown hgrow hB.size (fun k e => (hown.lt k e).1)
        have ho2 : w1.ownsRow w.heap.size 23 1 v' (xss.take (j + 1)).flatten.length ((xss.take (j + 1)).flatten.map (Value.int .u64)) := by
          rw [hF.out, List.length_append, List.map_append]; exact hown'
        clear hown' hgrow hown hB
        go_wp2
        go_roundw
        case rel => exact ⟨j + 1, by omega, by go_num, ho2, hB1⟩
        case measure => simp [intOf]; omega
    · obtain rfl : j = m := by omega
      have ho : wr.ownsRow w.heap.size 23 1 u3 xss.flatten.length (xss.flatten.map (Value.int .u64)) := by
        have e : xss.take j = xss := List.take_of_length_le (by rw [HM.out]; omega)
        rw [e] at hown
        exact hown
      clear hown
      go_wp2
      go_ret
      exact ⟨u3, rfl, hB, ho⟩
end Go.Proofs.Ytkmnlcnplnlceaa
