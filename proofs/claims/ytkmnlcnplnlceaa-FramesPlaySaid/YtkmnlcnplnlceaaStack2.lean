/-
  The contracts of the stack's Set, All, Pop.
-/
import Derived.Test.YtkmnlcnplnlceaaStack1
import Derived.Deep.RegionHeld3
import Derived.StillTailTactics
namespace Go.Proofs.Ytkmnlcnplnlceaa
open Go Go.RowKit

/-- The frames with slot i of the top one set. -/
def setTop (xss : List (List Int)) (i v : Int) : List (List Int) := match xss.getLast? with | none => [] | some l => xss.dropLast ++ [l.set i.toNat v]
theorem setTop_nil (i v : Int) : setTop [] i v = [] := rfl
theorem setTop_concat (xss : List (List Int)) (l : List Int) (i v : Int) : setTop (xss ++ [l]) i v = xss ++ [l.set i.toNat v] := by simp [setTop]

theorem sAll_any {sb : Nat} {xss : List (List Int)} {S : Nat → Prop} {w : World} (h : StackAt w sb xss S) :
    Calls Try.prog 13 #[.pointer (some ⟨sb, 0, none⟩)] w (RetOwn .u64 23 xss.flatten w) := by
  obtain ⟨sl, fr, h1, h2, _, _, _, _, _, h8, h9⟩ := h
  have hfl := flat_len h8
  obtain ⟨zs, hz⟩ : ∃ zs, xss.flatten = zs := ⟨_, rfl⟩
  rw [hz] at h2 hfl ⊢
  clear hz
  obtain ⟨a, cap, rfl, hc, hn, _⟩ := owns_slice h2
  have hr : Reads .u64 w a zs := by
    obtain ⟨a', cap', he, hr, _⟩ := owns_reads h2
    cases he
    exact hr
  have c0 := heap_cell h1 0
  simp at c0
  clear h1 h2
  go_enter Try.func13, Try.ntmps13
  go_wp2_with (go_at_call 21; refine (Clone_u64_any _ zs _ _ hr (by omega) (fun e => ⟨List.length_eq_zero_iff.1 (hn e).1, (hn e).2⟩)).mono ?_; rintro e w' ⟨v, rfl, hb, ho⟩)
  go_ret
  exact ⟨_, rfl, hb, ho⟩

theorem set_top_at {w : World} {sb : Nat} {yss : List (List Int)} {l : List Int} {S : Nat → Prop} (H : StackAt w sb (yss ++ [l]) S) (i : Nat) (v : Int) (_hi : i < l.length) (gb n cap : Nat) (fr0 : Value)
    (he : w.heap[sb]? = some (.cells #[.slice (some ⟨gb, 0, none⟩) n cap, fr0] 54 (0, 0))) :
    StackAt (w.setCell ⟨gb, yss.flatten.length + i, none⟩ (.int .u64 v)) sb (yss ++ [l.set i v]) S := by
  obtain ⟨sl, fr, h1, h2, h3, h4, h5, h6, h7, h8, h9⟩ := H
  rw [he] at h1
  simp only [Option.some.injEq, Obj.cells.injEq] at h1
  obtain ⟨h1, _, _⟩ := h1
  simp at h1
  obtain ⟨rfl, rfl⟩ := h1
  have hm : Moved (fun k => k = gb) w (w.setCell ⟨gb, yss.flatten.length + i, none⟩ (.int .u64 v)) := Moved.of_set w gb _ _ rfl
  have hs := h5 gb rfl
  have e1 : (yss ++ [l.set i v]).flatten = (yss ++ [l]).flatten.set (yss.flatten.length + i) v := by
    simp only [List.flatten_append, List.flatten_cons, List.flatten_nil, List.append_nil]
    rw [List.set_append_right _ _ (by omega), Nat.add_sub_cancel_left]
  obtain ⟨_, _, he', _⟩ := owns_slice h2
  simp only [Value.slice.injEq] at he'
  obtain ⟨_, hn9, _⟩ := he'
  subst hn9
  refine ⟨.slice (some ⟨gb, 0, none⟩) _ cap, fr0, hm.heap he (fun e => hs.2.1 e.symm), ?_, ?_, h4, h5, h6, fun k hk => Nat.lt_of_lt_of_le (h7 k hk) hm.size, ?_, ?_⟩
  · rw [e1, List.map_set, List.length_set]
    exact (h2.stored (yss.flatten.length + i) (.int .u64 v)).1
  · rw [offs_concat] at h3 ⊢
    simp only [List.length_append, List.length_singleton] at h3 ⊢
    exact hm.owns h3 (fun k hk e => hs.2.2 (by rw [hk, e]))
  · intro l' hl'
    rcases List.mem_append.1 hl' with h | h
    · exact h8 l' (by simp [h])
    · simp at h
      subst h
      rw [List.length_set]
      exact h8 l (by simp)
  · simpa using h9

theorem sSet_any {sb : Nat} {xss : List (List Int)} {S : Nat → Prop} {w : World} (h : StackAt w sb xss S) (i v : Int) (h0 : 0 ≤ i) (h1 : i ≤ 18446744073709551615) :
    Calls Try.prog 11 #[.pointer (some ⟨sb, 0, none⟩), .int .u64 i, .int .u64 v] w fun e w' => e = .returned (.tuple #[.int .u64 (getV xss i), .int .i64 (getE xss i)]) ∧ StackAt w' sb (setTop xss i v) S ∧ Moved S w w' := by
  have hg := sGet_any h i h0 h1
  rcases List.eq_nil_or_concat xss with rfl | ⟨yss, l, rfl⟩
  · rw [getV_nil, getE_nil] at hg
    rw [getV_nil, getE_nil, setTop_nil]
    have H := Lib.hid h
    clear h
    go_enter Try.func11, Try.ntmps11
    go_wp2_with fail
    refine hg.mono ?_
    rintro e w1 ⟨rfl, q, rfl⟩
    go_wp2
    go_ret2
    exact ⟨rfl, H.out.moved (Moved.drewN (fun _ => False) _ _) (fun _ _ e => e), Moved.drewN _ _ _⟩
  · rw [List.concat_eq_append] at h hg ⊢
    rw [getV_concat, getE_concat] at hg
    rw [getV_concat, getE_concat, setTop_concat]
    have H := Lib.hid h
    obtain ⟨a, cap, g, cb, o1, o2, o3, o4, o5, o6, o7, o8, o9, o10, o11, o12, o13, o14⟩ := h.open_
    have hfl := flat_len o12
    have hrd := top_reads o2
    have ht : ∀ q, Calls Try.prog 20 #[.pointer (some ⟨sb, 0, none⟩)] (w.drewN q) fun e w' => e = .returned (.tuple #[.slice (topA a yss.flatten.length (yss.flatten.length + l.length)) l.length l.length, .int .i64 0]) ∧ ∃ p, w' = (w.drewN q).drewN p := by
      intro q
      have c0 := heap_cell o1 0
      have c1 := heap_cell o1 1
      have := top_some (sb := sb) (w := w.drewN q) a (yss.flatten.length + l.length) cap g yss.length cb yss.flatten.length (by simpa using c0) (by simpa using c1) o4 (by omega) o5 (by omega) (by omega)
      rw [Nat.add_sub_cancel_left] at this
      exact this
    by_cases hi : i < l.length
    · obtain ⟨i, rfl⟩ := Int.eq_ofNat_of_zero_le h0
      have hi' : i < l.length := by omega
      rw [if_pos hi, Int.toNat_natCast] at hg
      rw [if_pos hi, Int.toNat_natCast]
      obtain ⟨gb, cap', cur, hs, _, hgb⟩ := own_shape o2 (by omega)
      cases hs
      have eT : topA (some ⟨gb, 0, none⟩) yss.flatten.length (yss.flatten.length + l.length) = some ⟨gb, yss.flatten.length, none⟩ := by
        unfold topA
        rw [if_neg (by omega)]
        simp [addr_add_none]
      rw [eT] at ht
      obtain ⟨f, hf⟩ : ∃ f, yss.flatten.length = f := ⟨_, rfl⟩
      rw [hf] at ht
      have HO := Lib.hid (And.intro o1 (And.intro o2 o3))
      have HF := Lib.hid hf
      obtain ⟨b', hb1, hb2, hb3, hb4⟩ := o7 _ rfl
      simp only [Addr.mk.injEq] at hb1
      obtain ⟨rfl, _, _⟩ := hb1
      have kc : w.cell? ⟨gb, f + i, none⟩ = some (.int .u64 (l[i]?.getD 0)) := by
        have := o2.cellAt (g := gb) (f + i) (by omega)
        rw [this, List.map_append, List.getElem?_append_right (by rw [List.length_map]; omega)]
        simp only [List.length_map]
        rw [show f + i - yss.flatten.length = i by omega]
        simp [hi']
      have kf := o2.frozenAt (g := gb) (f + i)
      obtain ⟨x, hx⟩ : ∃ x, l[i]?.getD 0 = x := ⟨_, rfl⟩
      rw [hx] at kc hg ⊢
      clear hx o1 o2 o3 o4 o5 o6 o7 h hrd hgb hf eT hfl
      go_enter Try.func11, Try.ntmps11
      go_wp2_with fail
      refine hg.mono ?_
      rintro e w1 ⟨rfl, q, rfl⟩
      go_wp2_with fail
      refine (ht q).mono ?_
      rintro e w1 ⟨rfl, p, rfl⟩
      go_wp2
      go_ret2
      have hm : Moved S w (((w.drewN q).drewN p).setCell ⟨gb, f + i, none⟩ (.int .u64 v)) := ((Moved.drewN S w q).trans (Moved.drewN S _ p) (fun _ h => .inl h)).trans (Moved.of_set _ gb (f + i) _ hb2) (fun _ h => .inl h)
      have h1 := HO.out.1
      have h9 := set_top_at (H.out.moved (Moved.drewN (fun _ => False) _ (q + p)) (fun _ _ e => e)) i v hi' gb _ _ _ h1
      rw [HF.out] at h9
      rw [drewN_add] at hm
      exact ⟨rfl, h9, hm⟩
    · rw [if_neg hi] at hg
      rw [if_neg hi, List.set_eq_of_length_le (by omega)]
      clear o1 o2 o3 o4 o5 o6 o7 h hrd
      rw [List.getElem?_eq_none (by omega)] at hg ⊢
      go_enter Try.func11, Try.ntmps11
      go_wp2_with fail
      refine hg.mono ?_
      rintro e w1 ⟨rfl, q, rfl⟩
      go_wp2
      go_ret2
      exact ⟨rfl, H.out.moved (Moved.drewN (fun _ => False) _ _) (fun _ _ e => e), Moved.drewN _ _ _⟩

/-- What Pop answers: the top frame's slots, and the error's number. -/
def popL (xss : List (List Int)) : List Int := xss.getLast?.getD []
def popE (xss : List (List Int)) : Int := if xss.isEmpty then 2 else 0
theorem popL_concat (xss : List (List Int)) (l : List Int) : popL (xss ++ [l]) = l := by simp [popL]
theorem popE_concat (xss : List (List Int)) (l : List Int) : popE (xss ++ [l]) = 0 := by simp [popE]

/-- The frame's head shrinks. -/
theorem pop_at {w : World} {sb : Nat} {yss : List (List Int)} {l : List Int} {S : Nat → Prop} (H : StackAt w sb (yss ++ [l]) S) (a b : Option Addr) (n m cap cb : Nat)
    (he : w.heap[sb]? = some (.cells #[.slice a n cap, .slice b m cb] 54 (0, 0))) :
    StackAt ((w.setCell ⟨sb, 0, none⟩ (.slice a yss.flatten.length cap)).setCell ⟨sb, 1, none⟩ (.slice b yss.length cb)) sb yss S := by
  obtain ⟨sl, fr, h1, h2, h3, h4, h5, h6, h7, h8, h9⟩ := H
  rw [he] at h1
  simp only [Option.some.injEq, Obj.cells.injEq] at h1
  obtain ⟨h1, _, _⟩ := h1
  simp at h1
  obtain ⟨rfl, rfl⟩ := h1
  have e1 : (yss ++ [l]).flatten = yss.flatten ++ l := by simp
  rw [e1] at h2
  rw [offs_concat] at h3
  obtain ⟨_, _, he1, _⟩ := owns_slice h2
  obtain ⟨_, _, he2, _⟩ := owns_slice h3
  simp only [Value.slice.injEq] at he1 he2
  obtain ⟨_, hn1, _⟩ := he1
  obtain ⟨_, hn2, _⟩ := he2
  subst hn1 hn2
  have k2 := owns_take h2 yss.flatten.length (by rw [List.length_append]; omega)
  have k3 := owns_take h3 yss.length (by rw [List.length_append]; omega)
  rw [← List.map_take, Nat.mul_one, List.take_left] at k2
  have e3 : ((offs yss ++ [(yss.flatten.length : Int)]).map (Value.int .i64)).take (yss.length * 1) = (offs yss).map (Value.int .i64) := by
    rw [← List.map_take, Nat.mul_one]
    have : yss.length = (offs yss).length := (offs_length yss).symm
    rw [this, List.take_left]
  rw [e3] at k3
  have hm : Moved (fun k => k = sb) w ((w.setCell ⟨sb, 0, none⟩ (.slice a yss.flatten.length cap)).setCell ⟨sb, 1, none⟩ (.slice b yss.length cb)) :=
    (Moved.of_set (S := fun k => k = sb) w sb 0 _ rfl).trans (Moved.of_set (S := fun k => k = sb) _ sb 1 _ rfl) (fun _ h => .inl h)
  have hh := heap_set (heap_set he 0 (.slice a yss.flatten.length cap)) 1 (.slice b yss.length cb)
  refine ⟨.slice a yss.flatten.length cap, .slice b yss.length cb, by simpa using hh, ?_, ?_, h4, ?_, ?_, fun k hk => Nat.lt_of_lt_of_le (h7 k hk) hm.size, fun x hx => h8 x (by simp [hx]), by simp at h9; omega⟩
  · exact hm.owns k2 (fun k hk => by
      cases a with
      | none => cases hk
      | some q => exact (h5 k hk).2.1)
  · exact hm.owns k3 (fun k hk => by
      cases b with
      | none => cases hk
      | some q => exact (h6 k hk).2)
  · intro k hk
    cases a with
    | none => cases hk
    | some q =>
      have := h5 k hk
      refine ⟨this.1, this.2.1, fun e => this.2.2 ?_⟩
      cases b with
      | none => cases e
      | some q => exact e
  · intro k hk
    cases b with
    | none => cases hk
    | some q => exact h6 k hk

set_option maxHeartbeats 1000000 in
theorem sPop_any {sb : Nat} {xss : List (List Int)} {S : Nat → Prop} {w : World} (h : StackAt w sb xss S) :
    Calls Try.prog 9 #[.pointer (some ⟨sb, 0, none⟩)] w fun e w' => ∃ v, e = .returned (.tuple #[v, .int .i64 (popE xss)]) ∧ StackAt w' sb xss.dropLast S ∧ Moved S w w' ∧ w'.ownsRow w.heap.size 23 1 v (popL xss).length ((popL xss).map (Value.int .u64)) := by
  rcases List.eq_nil_or_concat xss with rfl | ⟨yss, l, rfl⟩
  · have ht := top_none h
    have H := Lib.hid h
    clear h
    go_enter Try.func9, Try.ntmps9
    go_wp2_with fail
    refine ht.mono ?_
    rintro e w1 ⟨rfl, rfl⟩
    go_wp2
    go_ret2
    exact ⟨_, rfl, H.out, Moved.refl _ _, World.ownsRow_nil _ _ _ _⟩
  · rw [List.concat_eq_append] at h ⊢
    rw [popL_concat, popE_concat, List.dropLast_concat]
    have H := Lib.hid h
    obtain ⟨a, cap, g, cb, o1, o2, o3, o4, o5, o6, o7, o8, o9, o10, o11, o12, o13, o14⟩ := h.open_
    have hfl := flat_len o12
    have hrd := top_reads o2
    have c0 := heap_cell o1 0
    have c1 := heap_cell o1 1
    have ht := top_some (sb := sb) (w := w) a (yss.flatten.length + l.length) cap g yss.length cb yss.flatten.length (by simpa using c0) (by simpa using c1) o4 (by omega) o5 (by omega) (by omega)
    rw [Nat.add_sub_cancel_left] at ht
    obtain ⟨ta, hta⟩ : ∃ ta, topA a yss.flatten.length (yss.flatten.length + l.length) = ta := ⟨_, rfl⟩
    rw [hta] at ht hrd
    obtain ⟨hr, hrn⟩ := hrd
    have hcl : ∀ q, Calls Try.prog 21 #[.slice ta l.length l.length] (w.drewN q) (RetOwn .u64 23 l (w.drewN q)) := fun q =>
      Clone_u64_any ta l l.length (w.drewN q) hr (by omega) (fun e => ⟨hrn e, by rw [hrn e]; rfl⟩)
    have hcb : yss.length + 1 ≤ cb := by
      obtain ⟨_, _, e9, h9, _⟩ := owns_slice o3
      simp only [Value.slice.injEq] at e9
      obtain ⟨_, _, rfl⟩ := e9
      exact h9
    have O1 := Lib.hid o1
    have hsb := o11 sb o8
    have o8' : S sb := o8
    obtain ⟨f, hf⟩ : ∃ f, yss.flatten.length = f := ⟨_, rfl⟩
    rw [hf] at o5 O1 hfl
    have HF := Lib.hid hf
    clear o1 o2 o3 o4 o6 o7 o8 o9 o10 o11 o12 c0 c1 hta hrn h hr hf
    have hw : IntKind.i64.wrap (f : Int) = f := by rw [IntKind.wrap_i64]; omega
    have hw2 : IntKind.i64.wrap (yss.length : Int) = yss.length := by rw [IntKind.wrap_i64]; omega
    have i0 : (0 : Int) ≤ (f : Int) := by omega
    have i1 : (f : Int) ≤ (cap : Int) := by omega
    have i2 : (0 : Int) ≤ (yss.length : Int) := by omega
    have i3 : (yss.length : Int) ≤ (cb : Int) := by omega
    go_enter Try.func9, Try.ntmps9
    go_wp2_with fail
    refine ht.mono ?_
    rintro e w1 ⟨rfl, q, rfl⟩
    go_wp2_with fail
    refine (hcl q).mono ?_
    rintro e w1 ⟨v, rfl, hb, ho⟩
    have hb' : Below w.heap.size w w1 := ⟨hb.os, hb.tape, hb.output, hb.size, hb.block⟩
    have O2 := heap_below hb' O1.out hsb
    have c0 := heap_cell O2 0
    have c1 := heap_cell O2 1
    have f0 := heap_free O2 0
    have f1 := heap_free O2 1
    simp at c0 c1
    have HO2 := Lib.hid O2
    clear O2 hcl ht hb
    go_wp2
    go_still_tail 16, (by kernel_rfl)
    change wpList _ _ _ _ _ w1.drew
    go_wp2
    generalize hW : World.drew _ = w2
    have O3 : w2.heap[sb]? = some (.cells (#[.slice a (f + l.length) cap, .slice (some ⟨g, 0, none⟩) (yss.length + 1) cb].setIfInBounds 0 (.slice a f cap)) 54 (0, 0)) := by
      rw [← hW]
      exact heap_set HO2.out 0 (.slice a f cap)
    have d1 := heap_cell O3 1
    have g1 := heap_free O3 1
    simp at d1
    clear O3
    have HW := Lib.hid hW
    clear hW c0 c1 f0 f1
    go_still_tail 14, (by kernel_rfl)
    change wpList _ _ _ _ _ (World.drew _)
    go_wp2
    go_ret2
    have h9 := pop_at (H.out.moved (Moved.of_below hb' (fun _ => False)) (fun _ _ e => e)) a (some ⟨g, 0, none⟩) _ _ cap cb HO2.out
    rw [HF.out] at h9
    have e9 : (w2.setCell ⟨sb, 1, none⟩ (.slice (some ⟨g, 0, none⟩) yss.length cb)).drew = ((w1.setCell ⟨sb, 0, none⟩ (.slice a f cap)).setCell ⟨sb, 1, none⟩ (.slice (some ⟨g, 0, none⟩) yss.length cb)).drew.drew := by
      rw [← HW.out]; rfl
    rw [e9]
    have hm : Moved (fun k => k = sb) w1 ((w1.setCell ⟨sb, 0, none⟩ (.slice a f cap)).setCell ⟨sb, 1, none⟩ (.slice (some ⟨g, 0, none⟩) yss.length cb)).drew.drew :=
      (((Moved.of_set (S := fun k => k = sb) w1 sb 0 _ rfl).trans (Moved.of_set (S := fun k => k = sb) _ sb 1 _ rfl) (fun _ h => .inl h)).trans (Moved.drew (fun k => k = sb) _) (fun _ h => .inl h)).trans (Moved.drew (fun k => k = sb) _) (fun _ h => .inl h)
    refine ⟨v, rfl, ?_, (Moved.of_below hb' S).trans hm (fun k hk => .inl (by subst hk; exact o8')), ?_⟩
    · exact h9.moved ((Moved.drew (fun _ => False) _).trans (Moved.drew (fun _ => False) _) (fun _ h => .inl h)) (fun _ _ e => e)
    · exact hm.owns ho (fun k hk e => by have := (ho.lt k hk).1; subst e; exact absurd hsb (Nat.not_lt.2 this))
end Go.Proofs.Ytkmnlcnplnlceaa
