/-
  The document's frames: kraalref17.
-/
import Derived.Test.YtkmnlcnplnlceaaRows1
namespace Go.Proofs.Ytkmnlcnplnlceaa
open Go Go.RowKit

theorem cells_at {w : World} {b off : Nat} {us : List Value} (h : ∀ (i : Nat) u, us[i]? = some u → w.cell? ⟨b, off + i, none⟩ = some u) : ∀ j u, us[j]? = some u → w.cell? ((⟨b, off, none⟩ : Addr).add j) = some u := fun j u hu => by
  rw [addr_add_none]; exact h j u hu

set_option maxHeartbeats 1000000 in
theorem r17Push_any {R : Nat → Prop} {x : Value} {xss : List (List Int)} (n : Int) (w : World) (h : RowsAt w R x xss) (h0 : 0 ≤ n) (hk : xss.length ≤ 64) :
    Calls Try.prog 8 #[x, .int .u64 n] w fun e w' => ∃ x', e = .returned (.tuple #[x', .int .i64 (pushE xss.length n)]) ∧ Below w.heap.size w w' ∧ RowsAt w' (fun k => R k ∨ w.heap.size ≤ k) x' (pushL xss n) := by
  have H := Lib.hid h
  obtain ⟨b, off, cap, us, rfl, hus, hcap, hRb, hbl, hcl, hrow⟩ := h
  rcases (show 16 < n ∨ (n ≤ 16 ∧ 63 < xss.length) ∨ (n ≤ 16 ∧ xss.length ≤ 63) by omega) with hc | ⟨hc, hk⟩ | ⟨hc, hk⟩
  · rw [show pushE xss.length n = 1 by simp [pushE, hc], show pushL xss n = xss by rw [pushL, if_neg (by omega)]]
    clear hcl hrow hus hcap hRb hbl
    go_enter Try.func8, Try.ntmps8
    go_wp2
    go_ret2
    exact ⟨_, rfl, Below.refl _ _, H.out.weak (fun _ _ h => .inl h)⟩
  · rw [show pushE xss.length n = 3 by rw [pushE, if_neg (by omega), if_pos hk], show pushL xss n = xss by rw [pushL, if_neg (by omega)]]
    have hk2 : (63 : Int) < (xss.length : Int) := by omega
    clear hcl hrow hus hcap hRb hbl
    go_enter Try.func8, Try.ntmps8
    go_wp2
    go_ret2
    exact ⟨_, rfl, Below.refl _ _, H.out.weak (fun _ _ h => .inl h)⟩
  · obtain ⟨n, rfl⟩ := Int.eq_ofNat_of_zero_le h0
    rw [show pushE xss.length n = 0 by rw [pushE, if_neg (by omega), if_neg (by omega)], show pushL xss n = xss ++ [List.replicate n 0] by rw [pushL, if_pos ⟨by omega, hk⟩, Int.toNat_natCast]]
    have hk2 : (xss.length : Int) ≤ 63 := by omega
    have hw : IntKind.i64.wrap (n : Int) = n := by rw [IntKind.wrap_i64]; omega
    obtain ⟨i0, hi0, hz0, hz1, hz2⟩ := info_parts info_row
    have hcs := Lib.hid (cells_at hcl)
    have hone := Lib.hid (show ∀ u ∈ us, u.oneCell' = true from fun u hu => by
      obtain ⟨i, hi⟩ := List.mem_iff_getElem?.1 hu
      have hil := (List.getElem?_eq_some_iff.1 hi).1
      exact (hrow i u (xss[i]'(by omega)) hi (List.getElem?_eq_getElem _)).oneCell)
    obtain ⟨m, hm⟩ : ∃ m, xss.length = m := ⟨_, rfl⟩
    rw [hm] at hk hk2 hus
    rw [hm]
    have HM := Lib.hid hm
    have HU := Lib.hid hus
    have HR := Lib.hid hrow
    clear hcl hrow hm hus
    go_enter Try.func8, Try.ntmps8
    go_wp2_with fail
    refine (r16New_any n _ (by omega)).mono ?_
    rintro e w1 ⟨f, rfl, hb1, hf0⟩
    have hF := Lib.hid hf0
    obtain ⟨fb, fo, fc, rfl, _⟩ := hf0
    rw [List.length_replicate] at hF ⊢
    have hcs1 : ∀ j u, us[j]? = some u → w1.cell? ((⟨b, off, none⟩ : Addr).add j) = some u := fun j u hu => (hb1.cell (cell_lt (hcs.out j u hu))).trans (hcs.out j u hu)
    have HC := Lib.hid hcs1
    clear hcs1
    go_wp2_with (at_builtin; refine wpList_append_own _ rfl _ _ 27 rfl w1.heap.size 31 i0 (.slice none 0 0) 1 24 Try.underlying27 hi0 hz0 hz1 hz2 rfl (by decide) _ _ _ rfl (World.ownsRow_made w1 #[] 0 (Nat.le_refl _) (by decide) rfl) ⟨b, off, none⟩ m cap us rfl ?c0 ?c1 ?c2 ?c3 ?c4 ?c5 ?_)
    case c0 => rw [HU.out, Nat.mul_one]
    case c1 => exact fun j u hj => cell_alloc_old _ (HC.out j u hj)
    case c2 => exact hone.out
    case c3 => unfold maxLen; omega
    case c4 => omega
    case c5 => simp
    · intro v2 w2 ho2 hg2 _
      have hB2 : Below w1.heap.size w1 w2 := ((Below.refl w1.heap.size w1).alloc (Nat.le_refl _) (.cells #[] 31)).grown hg2 (by simp) (fun k e => by simp [Value.ownBlock] at e; omega)
      have ho2' : w2.ownsRow w1.heap.size 31 1 v2 m us := by simpa using ho2
      have hsz2 := hB2.size
      clear ho2 hg2
      go_wp2_with (at_builtin; refine wpList_append_own _ rfl _ _ 27 rfl w1.heap.size 31 i0 (.slice none 0 0) 1 24 Try.underlying27 hi0 hz0 hz1 hz2 rfl (by decide) _ _ _ rfl (ho2'.alloc _) ⟨w2.heap.size, 0, none⟩ 1 1 [.slice (some ⟨fb, fo, none⟩) n fc] rfl rfl ?d1 ?d2 ?d3 ?d4 ?d5 ?_)
      case d1 => exact World.news_of_block (cs := #[.slice (some ⟨fb, fo, none⟩) n fc]) (t := 31) (fr := (0, 0)) (heap_alloc_eq w2 _)
      case d2 => intro u hu; simp at hu; subst hu; rfl
      case d3 => unfold maxLen; omega
      case d4 => omega
      case d5 => simp; omega
      · intro v3 w3 ho3 hg3 _
        have hB3 : Below w1.heap.size w1 w3 := (hB2.alloc hsz2 _).grown hg3 (by simp; omega) (fun k e => (ho2'.lt k e).1)
        clear hg3 ho2'
        go_wp2
        go_ret2
        have hbz : Below w.heap.size w w3 := hb1.trans (hB3.mono hb1.size)
        have hl : (us ++ [Value.slice (some ⟨fb, fo, none⟩) n fc]).length = m + 1 := by rw [List.length_append, HU.out]; rfl
        refine ⟨v3, rfl, hbz, rows_of_owns (B := w1.heap.size) (us := us ++ [Value.slice (some ⟨fb, fo, none⟩) n fc]) (by rw [hl]; exact ho3) (by rw [hl, List.length_append, HM.out]; rfl) (by rw [hl]; omega) (fun k hk => .inr (by have := hb1.size; omega)) ?_⟩
        intro i u xs hu hx
        rcases Nat.lt_or_ge i m with hi | hi
        · rw [List.getElem?_append_left (by rw [HU.out]; exact hi)] at hu
          rw [List.getElem?_append_left (by rw [HM.out]; exact hi)] at hx
          exact ((HR.out i u xs hu hx).below hbz).weak (fun _ _ h => .inl h)
        · have hil := (List.getElem?_eq_some_iff.1 hu).1
          rw [hl] at hil
          obtain rfl : i = m := by omega
          rw [List.getElem?_append_right (by rw [HU.out]; omega)] at hu
          rw [List.getElem?_append_right (by rw [HM.out]; omega)] at hx
          rw [HU.out] at hu
          rw [HM.out] at hx
          simp at hu hx
          subst hu hx
          exact (hF.out.below hB3).weak (fun k _ h => .inr h)

theorem r17Pop_any {R : Nat → Prop} {x : Value} {xss : List (List Int)} (w : World) (h : RowsAt w R x xss) (hk : xss.length ≤ 64) :
    Calls Try.prog 10 #[x] w fun e w' => ∃ x' v, e = .returned (.tuple #[x', v, .int .i64 (popE xss)]) ∧ Below w.heap.size w w' ∧ RowsAt w' R x' xss.dropLast ∧ RowAt w' (fun k => R k ∨ w.heap.size ≤ k) v (popL xss) := by
  rcases List.eq_nil_or_concat xss with rfl | ⟨yss, l, rfl⟩
  · have H := Lib.hid h
    obtain ⟨b, off, cap, us, rfl, hus, hcap, hRb, hbl, hcl, hrow⟩ := h
    clear hcl hrow hus hcap hRb hbl
    go_enter Try.func10, Try.ntmps10
    go_wp2
    go_ret3
    have hb : Below w.heap.size w (w.alloc (.cells #[] 23)) := (Below.refl _ _).alloc (Nat.le_refl _) _
    exact ⟨_, _, rfl, hb, H.out.below hb, w.heap.size, 0, 0, rfl, .inl rfl, .inr (Nat.le_refl _), by simp, by simp [popL]⟩
  · rw [List.concat_eq_append] at h hk ⊢
    rw [popL_concat, popE_concat, List.dropLast_concat]
    obtain ⟨b, off, cap, us, rfl, hus, hcap, hRb, hbl, hcl, hrow⟩ := h
    rw [List.length_append, List.length_singleton] at hus hcap hk ⊢
    obtain ⟨m, hm⟩ : ∃ m, yss.length = m := ⟨_, rfl⟩
    rw [hm] at hus hcap hk ⊢
    have hm2 : m < us.length := by omega
    obtain ⟨u, hu⟩ : ∃ u, us[m]? = some u := ⟨_, List.getElem?_eq_getElem hm2⟩
    have hc := hcl m u hu
    have hru := hrow m u l hu (by rw [List.getElem?_append_right (by omega), hm]; simp)
    have HRU := Lib.hid hru
    have HU := Lib.hid hus
    have HM := Lib.hid hm
    have HR := Lib.hid hrow
    have HC := Lib.hid hcl
    obtain ⟨b2, o2, c2, rfl, _⟩ := hru
    have hw : IntKind.i64.wrap (m : Int) = m := by rw [IntKind.wrap_i64]; omega
    have hb0 : ((m : Int) + 1 == 0) = false := by simp; omega
    have i0 : (0 : Int) ≤ (m : Int) := by omega
    have i1 : (m : Int) ≤ (cap : Int) := by omega
    have i2 : (m : Int) < (m : Int) + 1 := by omega
    have hcm : cap ≠ 0 := by omega
    clear hcl hrow hus hm hu
    go_enter Try.func10, Try.ntmps10
    go_wp2
    go_quiet (fail)
    go_wp2
    go_ret3
    refine ⟨_, _, rfl, below_drewN (Below.refl _ _) _, ⟨b, off, cap, us.take m, by rw [HM.out]; rfl, by rw [List.length_take, HU.out, HM.out]; omega, by rw [HM.out]; omega, hRb, hbl, fun i u hu => ?_, fun i u xs hu hx => ?_⟩, HRU.out.moved (Moved.drewN (fun _ => False) w _) (fun _ _ _ e => e) (fun _ _ h => .inl h)⟩
    · rw [List.getElem?_take] at hu
      split at hu
      · exact HC.out i u hu
      · cases hu
    · rw [List.getElem?_take] at hu
      split at hu
      · exact (HR.out i u xs hu (by rw [List.getElem?_append_left (by rw [HM.out]; assumption)]; exact hx)).moved (Moved.drewN (fun _ => False) w _) (fun _ _ _ e => e) (fun _ _ h => h)
      · cases hu

theorem r17Get_any {R : Nat → Prop} {x : Value} {xss : List (List Int)} (i : Int) (w : World) (h : RowsAt w R x xss) (h0 : 0 ≤ i) (h1 : i ≤ 18446744073709551615) (hk : xss.length ≤ 64) :
    Calls Try.prog 18 #[x, .int .u64 i] w fun e w' => e = .returned (.tuple #[.int .u64 (getV xss i), .int .i64 (getE xss i)]) ∧ w' = w := by
  rcases List.eq_nil_or_concat xss with rfl | ⟨yss, l, rfl⟩
  · obtain ⟨b, off, cap, us, rfl, hus, hcap, hRb, hbl, hcl, hrow⟩ := h
    rw [getV_nil, getE_nil]
    clear hcl hrow hus hcap hRb hbl
    go_enter Try.func18, Try.ntmps18
    go_wp2
    go_ret2
    exact ⟨rfl, rfl⟩
  · rw [List.concat_eq_append] at h hk ⊢
    rw [getV_concat, getE_concat]
    obtain ⟨b, off, cap, us, rfl, hus, hcap, hRb, hbl, hcl, hrow⟩ := h
    rw [List.length_append, List.length_singleton] at hus hcap hk ⊢
    obtain ⟨m, hm⟩ : ∃ m, yss.length = m := ⟨_, rfl⟩
    rw [hm] at hus hcap hk ⊢
    have hm2 : m < us.length := by omega
    obtain ⟨u, hu⟩ : ∃ u, us[m]? = some u := ⟨_, List.getElem?_eq_getElem hm2⟩
    have hc := hcl m u hu
    have hru := hrow m u l hu (by rw [List.getElem?_append_right (by omega), hm]; simp)
    have hg := r16Get_any i w hru h0 h1
    obtain ⟨b2, o2, c2, rfl, _⟩ := hru
    have hw : IntKind.i64.wrap (m : Int) = m := by rw [IntKind.wrap_i64]; omega
    have hb0 : ((m : Int) + 1 == 0) = false := by simp; omega
    have i2 : (m : Int) < (m : Int) + 1 := by omega
    obtain ⟨V, hV⟩ : ∃ V, l[i.toNat]?.getD 0 = V := ⟨_, rfl⟩
    obtain ⟨E, hE⟩ : ∃ E, (if i < (l.length : Int) then (0 : Int) else 8) = E := ⟨_, rfl⟩
    rw [hV, hE] at hg ⊢
    clear hcl hrow hus hm hu hV hE
    go_enter Try.func18, Try.ntmps18
    go_wp2_with fail
    refine hg.mono ?_
    rintro e w1 ⟨rfl, rfl⟩
    go_wp2
    go_ret2
    exact ⟨rfl, rfl⟩
end Go.Proofs.Ytkmnlcnplnlceaa
