/-
  walk.One: the object that begins at a word.
-/
import Derived.Test.YtojcdljpgginjaaDoorOn1
namespace Go.Proofs.YtojcdljpgginjaaDoor
open Go Go.RowKit

theorem new_cell (w : World) (v : Value) (t : TypeId) : ∀ (j : Nat) (u : Value), [v][j]? = some u → (w.alloc (.cells #[v] t)).cell? ((⟨w.heap.size, 0, none⟩ : Addr).add j) = some u := by
  intro j u h
  match j, h with
  | 0, h => simp at h; subst h; simp [Addr.add]
theorem one_ok (v : Value) (h : v.oneCell' = true) : ∀ u ∈ [v], u.oneCell' = true := by
  intro u hu; simp at hu; subst hu; exact h

/-- What stays while One runs. -/
structure OnInv (w0 : World) (b g : Nat) (xs : List Int) (ta : Option Addr) (ds : List (List Int)) (w : World) : Prop where
  r : w.heap[w0.heap.size]? = some (.cells #[.int .i64 0, .int .i64 0, .bool false, .int .i64 0, .int .i64 0, .int .i64 0, .slice none 0 0, .slice none 0 0] 53 (0, 0))
  z : w.heap[w0.heap.size + 1]? = some (.cells #[.int .i64 0, .int .i64 0, .bool false, .int .i64 0, .int .i64 0, .int .i64 0, .slice none 0 0, .slice none 0 0] 53 (0, 0))
  bb : Below w0.heap.size w0 w
  t : Tab w
  m : MemAt w b g xs
  d : Descs w ta ds
theorem OnInv.below {w0 : World} {b g : Nat} {xs : List Int} {ta : Option Addr} {ds : List (List Int)} {w w' : World} (h : OnInv w0 b g xs ta ds w) (hb : Below w.heap.size w w') : OnInv w0 b g xs ta ds w' :=
  ⟨heap_below hb h.r (heap_lt h.r), heap_below hb h.z (heap_lt h.z), h.bb.trans (hb.mono h.bb.size), h.t.below h.t.lt hb, h.m.later hb, h.d.below hb⟩

set_option maxRecDepth 100000 in
set_option maxHeartbeats 4000000 in
theorem One_any (b g : Nat) (xs : List Int) (at_ : Int) (ta : Option Addr) (ds : List (List Int)) (tc : Nat) (w : World) (hT : Tab w) (hM : MemAt w b g xs) (hD : Descs w ta ds) (hd : ∀ d ∈ ds, d.length ≤ 100) (hn : ds.length ≤ 9223372036854775807) (hx : ∀ v ∈ xs, 0 ≤ v ∧ v < 18446744073709551616) (ha : at_ ≤ 9223372036854775807) :
    Calls Tryd.prog 18 #[.pointer (some ⟨b, 0, none⟩), .int .i64 at_, .slice ta ds.length tc] w (OneRet (fun _ => False) xs ds at_ w) := by
  obtain ⟨W, hW⟩ : ∃ W, W = (w.alloc (.cells #[.int .i64 0, .int .i64 0, .bool false, .int .i64 0, .int .i64 0, .int .i64 0, .slice none 0 0, .slice none 0 0] 53)).alloc (.cells #[.int .i64 0, .int .i64 0, .bool false, .int .i64 0, .int .i64 0, .int .i64 0, .slice none 0 0, .slice none 0 0] 53) := ⟨_, rfl⟩
  have hbo : Below w.heap.size w W := by rw [hW]; exact ((Below.refl _ _).alloc (Nat.le_refl _) _).alloc (by simp) _
  have hO1 : W.heap[w.heap.size]? = some (.cells #[.int .i64 0, .int .i64 0, .bool false, .int .i64 0, .int .i64 0, .int .i64 0, .slice none 0 0, .slice none 0 0] 53 (0, 0)) := by
    rw [hW]; exact heap_alloc_lt (heap_alloc_eq _ _) _
  have hO2 : W.heap[w.heap.size + 1]? = some (.cells #[.int .i64 0, .int .i64 0, .bool false, .int .i64 0, .int .i64 0, .int .i64 0, .slice none 0 0, .slice none 0 0] 53 (0, 0)) := by
    rw [hW]
    have := heap_alloc_eq (w.alloc (.cells #[.int .i64 0, .int .i64 0, .bool false, .int .i64 0, .int .i64 0, .int .i64 0, .slice none 0 0, .slice none 0 0] 53)) (.cells #[.int .i64 0, .int .i64 0, .bool false, .int .i64 0, .int .i64 0, .int .i64 0, .slice none 0 0, .slice none 0 0] 53)
    rw [show (w.alloc (.cells #[.int .i64 0, .int .i64 0, .bool false, .int .i64 0, .int .i64 0, .int .i64 0, .slice none 0 0, .slice none 0 0] 53)).heap.size = w.heap.size + 1 by simp] at this
    exact this
  have H0 : Hid (OnInv w b g xs ta ds W) := Lib.hid ⟨hO1, hO2, hbo, hT.below hT.lt hbo, hM.later hbo, hD.below hbo⟩
  have HW := Lib.hid hW
  have HD := Lib.hid (And.intro hd hx)
  have hxl := hM.2.2
  clear hW hbo hO1 hO2 hT hM hD hd hx
  obtain ⟨i0, hi, hz0, hz1, hz2⟩ := info_parts info_u64
  by_cases h1 : at_ < 1
  · have he : onE xs ds at_ = 8 := by rw [onE, if_neg (by omega)]
    have HE := Lib.hid he
    clear he
    go_enter Tryd.func18, Tryd.ntmps18
    go_wp2_with fail
    rw [← HW.out]
    have q0 := heap_cell H0.out.r 0
    have q1 := heap_cell H0.out.r 1
    have q2 := heap_cell H0.out.r 2
    have q3 := heap_cell H0.out.r 3
    have q4 := heap_cell H0.out.r 4
    have q5 := heap_cell H0.out.r 5
    have q6 := heap_cell H0.out.r 6
    have q7 := heap_cell H0.out.r 7
    simp at q0 q1 q2 q3 q4 q5 q6 q7
    have f0 := heap_free H0.out.r 0
    have f1 := heap_free H0.out.r 1
    have f2 := heap_free H0.out.r 2
    have f3 := heap_free H0.out.r 3
    have f4 := heap_free H0.out.r 4
    have f5 := heap_free H0.out.r 5
    have f6 := heap_free H0.out.r 6
    have f7 := heap_free H0.out.r 7
    have o0 := heap_cell H0.out.z 0
    have o1 := heap_cell H0.out.z 1
    have o2 := heap_cell H0.out.z 2
    have o3 := heap_cell H0.out.z 3
    have o4 := heap_cell H0.out.z 4
    have o5 := heap_cell H0.out.z 5
    have o6 := heap_cell H0.out.z 6
    have o7 := heap_cell H0.out.z 7
    simp at o0 o1 o2 o3 o4 o5 o6 o7
    go_wp2
    refine bodyPost_ret (v := .tuple #[.agg #[.int .i64 0, .int .i64 0, .bool false, .int .i64 0, .int .i64 0, .int .i64 0, .slice none 0 0, .slice none 0 0], .int .i64 8]) (by simp [results, Tryd.results18, go_sem, q0, q1, q2, q3, q4, q5, q6, q7]) rfl ?_
    exact one_no HE.out (by decide) H0.out.bb
  · obtain ⟨p, rfl⟩ := Int.eq_ofNat_of_zero_le (show 0 ≤ at_ by omega)
    have h1' : (1 : Int) ≤ (p : Int) := by omega
    by_cases h2 : xs.length < p
    · have he : onE xs ds p = 8 := by rw [onE, if_neg (by omega)]
      have HE := Lib.hid he
      have hr := wRead_any b g xs ((p : Int) - 1) W H0.out.m
      have hin : inB xs.length ((p : Int) - 1) = false := by simp [inB]; omega
      rw [show rdV xs ((p : Int) - 1) = 0 by simp [rdV, hin], show wrE xs.length ((p : Int) - 1) = 8 by simp [wrE, hin]] at hr
      clear he hin
      go_enter Tryd.func18, Tryd.ntmps18
      go_wp2_with fail
      rw [← HW.out]
      go_wp2_with fail
      refine hr.mono ?_
      rintro e w1 ⟨rfl, rfl⟩
      clear hr
      have q0 := heap_cell H0.out.r 0
      have q1 := heap_cell H0.out.r 1
      have q2 := heap_cell H0.out.r 2
      have q3 := heap_cell H0.out.r 3
      have q4 := heap_cell H0.out.r 4
      have q5 := heap_cell H0.out.r 5
      have q6 := heap_cell H0.out.r 6
      have q7 := heap_cell H0.out.r 7
      simp at q0 q1 q2 q3 q4 q5 q6 q7
      have f0 := heap_free H0.out.r 0
      have f1 := heap_free H0.out.r 1
      have f2 := heap_free H0.out.r 2
      have f3 := heap_free H0.out.r 3
      have f4 := heap_free H0.out.r 4
      have f5 := heap_free H0.out.r 5
      have f6 := heap_free H0.out.r 6
      have f7 := heap_free H0.out.r 7
      have o0 := heap_cell H0.out.z 0
      have o1 := heap_cell H0.out.z 1
      have o2 := heap_cell H0.out.z 2
      have o3 := heap_cell H0.out.z 3
      have o4 := heap_cell H0.out.z 4
      have o5 := heap_cell H0.out.z 5
      have o6 := heap_cell H0.out.z 6
      have o7 := heap_cell H0.out.z 7
      simp at o0 o1 o2 o3 o4 o5 o6 o7
      go_wp2
      refine bodyPost_ret (v := .tuple #[.agg #[.int .i64 0, .int .i64 0, .bool false, .int .i64 0, .int .i64 0, .int .i64 0, .slice none 0 0, .slice none 0 0], .int .i64 8]) (by simp [results, Tryd.results18, go_sem, q0, q1, q2, q3, q4, q5, q6, q7]) rfl ?_
      have h8 := (set8_at H0.out.r (.int .i64 0) (.int .i64 0) (.bool false) (.int .i64 0) (.int .i64 0) (.int .i64 0) (.slice none 0 0) (.slice none 0 0)).2
      change OneRet _ _ _ _ _ _ (set8 W w.heap.size (.int .i64 0) (.int .i64 0) (.bool false) (.int .i64 0) (.int .i64 0) (.int .i64 0) (.slice none 0 0) (.slice none 0 0))
      generalize set8 W w.heap.size (.int .i64 0) (.int .i64 0) (.bool false) (.int .i64 0) (.int .i64 0) (.int .i64 0) (.slice none 0 0) (.slice none 0 0) = w8 at h8 ⊢
      exact one_no HE.out (by decide) (H0.out.bb.grown h8 H0.out.bb.size (fun k e => by cases e; omega))
    · have hp1 : p ≤ xs.length := by omega
      obtain ⟨x, hx⟩ : ∃ x, onX xs p = x := ⟨_, rfl⟩
      have hr := wRead_any b g xs ((p : Int) - 1) W H0.out.m
      have hin : inB xs.length ((p : Int) - 1) = true := by simp [inB]; omega
      rw [show rdV xs ((p : Int) - 1) = x by rw [rdV, if_pos hin]; exact hx, show wrE xs.length ((p : Int) - 1) = 0 by simp [wrE, hin]] at hr
      have hxw : 0 ≤ x ∧ x < 18446744073709551616 := by
        have h5 : ((p : Int) - 1).toNat < xs.length := by omega
        rw [onX, List.getD_eq_getElem?_getD, List.getElem?_eq_getElem h5] at hx
        rw [← hx]
        exact HD.out.2 _ (List.getElem_mem h5)
      have HX := Lib.hid (And.intro hx hxw)
      have h4 : (p : Int) ≤ 16384 := by omega
      clear hin hx hxw
      have hget := hGet_any x W H0.out.t HX.out.2.1 HX.out.2.2
      cases hgb : getB x
      · have he : onE xs ds p = 11 := by rw [onE, if_pos (by omega), HX.out.1, if_neg (by simp [hgb])]
        have HE := Lib.hid he
        rw [show getV x = .agg #[.bool false, .int .i64 0, .int .i64 0, .int .i64 0] by simp [getV, hgb], show getE x = 11 by simp [getE, hgb]] at hget
        clear he hgb
        go_enter Tryd.func18, Tryd.ntmps18
        go_wp2_with fail
        rw [← HW.out]
        go_wp2_with fail
        refine hr.mono ?_
        rintro e w1 ⟨rfl, rfl⟩
        go_wp2_with fail
        refine hget.mono ?_
        rintro e w2 ⟨rfl, hb⟩
        have H2 := Lib.hid ((H0.out.below hb).below (Below.alloc (Below.refl w2.heap.size w2) (Nat.le_refl _) (.cells #[.bool false, .int .i64 0, .int .i64 0, .int .i64 0] 26)))
        clear hr hget hb
        have q0 := heap_cell H2.out.r 0
        have q1 := heap_cell H2.out.r 1
        have q2 := heap_cell H2.out.r 2
        have q3 := heap_cell H2.out.r 3
        have q4 := heap_cell H2.out.r 4
        have q5 := heap_cell H2.out.r 5
        have q6 := heap_cell H2.out.r 6
        have q7 := heap_cell H2.out.r 7
        simp at q0 q1 q2 q3 q4 q5 q6 q7
        have f0 := heap_free H2.out.r 0
        have f1 := heap_free H2.out.r 1
        have f2 := heap_free H2.out.r 2
        have f3 := heap_free H2.out.r 3
        have f4 := heap_free H2.out.r 4
        have f5 := heap_free H2.out.r 5
        have f6 := heap_free H2.out.r 6
        have f7 := heap_free H2.out.r 7
        have o0 := heap_cell H2.out.z 0
        have o1 := heap_cell H2.out.z 1
        have o2 := heap_cell H2.out.z 2
        have o3 := heap_cell H2.out.z 3
        have o4 := heap_cell H2.out.z 4
        have o5 := heap_cell H2.out.z 5
        have o6 := heap_cell H2.out.z 6
        have o7 := heap_cell H2.out.z 7
        simp at o0 o1 o2 o3 o4 o5 o6 o7
        go_wp2
        refine bodyPost_ret (v := .tuple #[.agg #[.int .i64 0, .int .i64 0, .bool false, .int .i64 0, .int .i64 0, .int .i64 0, .slice none 0 0, .slice none 0 0], .int .i64 11]) (by simp [results, Tryd.results18, go_sem, q0, q1, q2, q3, q4, q5, q6, q7]) rfl ?_
        have h8 := (set8_at H2.out.r (.int .i64 0) (.int .i64 0) (.bool false) (.int .i64 0) (.int .i64 0) (.int .i64 0) (.slice none 0 0) (.slice none 0 0)).2
        change OneRet _ _ _ _ _ _ (set8 (w2.alloc (.cells #[.bool false, .int .i64 0, .int .i64 0, .int .i64 0] 26)) w.heap.size (.int .i64 0) (.int .i64 0) (.bool false) (.int .i64 0) (.int .i64 0) (.int .i64 0) (.slice none 0 0) (.slice none 0 0))
        generalize set8 (w2.alloc (.cells #[.bool false, .int .i64 0, .int .i64 0, .int .i64 0] 26)) w.heap.size (.int .i64 0) (.int .i64 0) (.bool false) (.int .i64 0) (.int .i64 0) (.int .i64 0) (.slice none 0 0) (.slice none 0 0) = w8 at h8 ⊢
        exact one_no HE.out (by decide) (H2.out.bb.grown h8 H2.out.bb.size (fun k e => by cases e; omega))
      · rw [show getV x = .agg #[.bool (gA x), .int .i64 (gK x), .int .i64 (gT x), .int .i64 (gN x)] by simp [getV, hgb], show getE x = 0 by simp [getE, hgb]] at hget
        obtain ⟨E, hE⟩ : ∃ q, knE ds (gA x) (gK x) (gT x) (gN x) = q := ⟨_, rfl⟩
        obtain ⟨L, hL⟩ : ∃ q, knL ds (gA x) (gK x) (gT x) (gN x) = q := ⟨_, rfl⟩
        have hL4 : L.length ≤ 4000 := by rw [← hL]; exact knL_length HD.out.1
        have HGB := Lib.hid (And.intro hgb (And.intro hE hL))
        obtain ⟨ga, hga⟩ : ∃ q, gA x = q := ⟨_, rfl⟩
        obtain ⟨gk, hgk⟩ : ∃ q, gK x = q := ⟨_, rfl⟩
        obtain ⟨gt, hgt⟩ : ∃ q, gT x = q := ⟨_, rfl⟩
        obtain ⟨gn, hgn⟩ : ∃ q, gN x = q := ⟨_, rfl⟩
        rw [hga, hgk, hgt, hgn] at hget
        have HG := Lib.hid (And.intro hga (And.intro hgk (And.intro hgt hgn)))
        clear hgb hE hL hga hgk hgt hgn
        go_enter Tryd.func18, Tryd.ntmps18
        go_wp2_with fail
        rw [← HW.out]
        go_wp2_with fail
        refine hr.mono ?_
        rintro e w1 ⟨rfl, rfl⟩
        go_wp2_with fail
        refine hget.mono ?_
        rintro e w2 ⟨rfl, hb⟩
        have H2 := Lib.hid ((H0.out.below hb).below (Below.alloc (Below.refl w2.heap.size w2) (Nat.le_refl _) (.cells #[.bool ga, .int .i64 gk, .int .i64 gt, .int .i64 gn] 26)))
        clear hr hget hb
        have hk := Kinds_any ta ds tc ga gk gt gn (w2.alloc (.cells #[.bool ga, .int .i64 gk, .int .i64 gt, .int .i64 gn] 26)) H2.out.t H2.out.d HD.out.1 hn
        have e7 := HGB.out.2
        rw [HG.out.1, HG.out.2.1, HG.out.2.2.1, HG.out.2.2.2] at e7
        rw [e7.1, e7.2] at hk
        clear e7
        go_wp2_with fail
        refine hk.mono ?_
        rintro e w3 ⟨v3, rfl, hb3, ho3⟩
        have H3 := Lib.hid (H2.out.below hb3)
        have hhd := heap_below hb3 (heap_alloc_eq w2 (.cells #[.bool ga, .int .i64 gk, .int .i64 gt, .int .i64 gn] 26)) (by simp)
        clear hk hb3
        by_cases hE0 : E = 0
        · subst hE0
          obtain ⟨a3, c3, rfl, _, _, _⟩ := owns_slice ho3
          have HO3 := Lib.hid (And.intro ho3 hhd)
          have hs3 := H3.out.bb.size
          have hs2 := heap_lt H2.out.z
          have hs32 := heap_lt H3.out.z
          have d0 := heap_cell HO3.out.2 0
          have d1 := heap_cell HO3.out.2 1
          have d2 := heap_cell HO3.out.2 2
          have d3 := heap_cell HO3.out.2 3
          simp at d0 d1 d2 d3
          have hbO : Below w3.heap.size w3 (w3.alloc (.cells #[.int .i64 p, .int .i64 0, .bool ga, .int .i64 gk, .int .i64 gt, .int .i64 gn, .slice a3 L.length c3, .slice none 0 0] 53)) := (Below.refl _ _).alloc (Nat.le_refl _) _
          have HB0 := Lib.hid hbO
          clear hbO ho3 hhd
          go_wp2
          clear d0 d1 d2 d3
          go_loopw [60, 14, 15, 16] (fun i _ _ _ wr => ∃ (j : Nat) (v : Value), j ≤ L.length ∧ i = .int .i64 j ∧ wr.heap[w3.heap.size]? = some (.cells #[.int .i64 p, .int .i64 0, .bool ga, .int .i64 gk, .int .i64 gt, .int .i64 gn, .slice a3 L.length c3, v] 53 (0, 0)) ∧ wr.ownsRow (w3.heap.size + 1) 44 1 v j (((xs.drop p).take j).map (Value.int .u64)) ∧ Below w3.heap.size w3 wr ∧ p + j ≤ xs.length) (fun i _ _ _ _ => L.length - (intOf i).toNat)
          case atStart => exact ⟨0, _, Nat.zero_le _, rfl, heap_alloc_eq _ _, World.ownsRow_nil _ _ _ _, HB0.out, by omega⟩
          case round =>
            obtain ⟨j, v, hj, rfl, hob, hown, hB, hpj⟩ := hrel
            have HI := Lib.hid (H3.out.below hB)
            by_cases hlj : j < L.length
            · have j4 : (j : Int) ≤ 4000 := by omega
              have j5 : (0 : Int) ≤ (j : Int) := by omega
              have hr := wRead_any b g xs ((p : Int) + (j : Int)) wr HI.out.m
              by_cases hin : p + j < xs.length
              · obtain ⟨y, hy⟩ : ∃ y, xs[p + j]? = some y := ⟨_, List.getElem?_eq_getElem hin⟩
                have hb1 : inB xs.length ((p : Int) + (j : Int)) = true := by simp [inB]; omega
                rw [show rdV xs ((p : Int) + (j : Int)) = y by rw [rdV, if_pos hb1, show ((p : Int) + (j : Int)).toNat = p + j by omega, List.getD_eq_getElem?_getD, hy]; rfl, show wrE xs.length ((p : Int) + (j : Int)) = 0 by simp [wrE, hb1]] at hr
                have htk : (xs.drop p).take (j + 1) = (xs.drop p).take j ++ [y] := by
                  rw [List.take_add_one, List.getElem?_drop, hy]; rfl
                have htl : ((xs.drop p).take j).length = j := by simp; omega
                have HTK := Lib.hid (And.intro htk htl)
                have ov := heap_cell hob 7
                simp at ov
                have fv := heap_free hob 7
                have hlo := heap_lt hob
                have HOB := Lib.hid hob
                clear hy hb1 htk htl hob
                go_wp2_with (first | (go_at_call 33; refine hr.mono ?_; rintro e w' ⟨rfl, rfl⟩) | (at_builtin; refine wpList_append_own _ rfl _ _ 22 rfl (w3.heap.size + 1) 44 i0 (.int .u64 0) 1 8 Tryd.underlying22 hi hz0 hz1 hz2 rfl (by decide) _ _ _ rfl (hown.alloc _) ⟨wr.heap.size, 0, none⟩ 1 1 [_] rfl rfl (new_cell _ _ _) (one_ok _ rfl) (by unfold maxLen; omega) (by omega) (by simp; omega) ?_))
                intro v' w1 hown' hgrow _
                have hB1 := (hB.alloc hB.size (.cells #[.int .u64 y] 44)).grown hgrow (by have := hB.size; simp; omega) (fun k e => by have := (hown.lt k e).1; omega)
                have ho2 : w1.ownsRow (w3.heap.size + 1) 44 1 v' (j + 1) (((xs.drop p).take (j + 1)).map (Value.int .u64)) := by
                  rw [HTK.out.1]; simpa using hown'
                have hd1 := (hgrow.block w3.heap.size (by simp; omega) (fun e => by have := (hown.lt _ e.symm).1; omega)).trans (heap_alloc_lt HOB.out _)
                obtain ⟨a', c', rfl, _, _, _⟩ := owns_slice ho2
                have hd2 := heap_set hd1 7 (.slice a' (j + 1) c')
                simp at hd2
                have ho3 := (Moved.of_set (S := fun q => q = w3.heap.size) w1 w3.heap.size 7 (.slice a' (j + 1) c') rfl).owns ho2 (fun q hq e => by have := (ho2.lt q hq).1; omega)
                have hB2 := hB1.setCell (p := ⟨w3.heap.size, 7, none⟩) (Nat.le_refl _) (.slice a' (j + 1) c')
                have ov := heap_cell hd1 7
                simp at ov
                have fv := heap_free hd1 7
                have HZ := Lib.hid (And.intro hd2 (And.intro ho3 hB2))
                clear hown' hgrow hown hB hB1 ho2 hd1 hd2 ho3 hB2 hr
                go_wp2
                go_roundw
                case rel => exact ⟨j + 1, _, by omega, by go_num, HZ.out.1, HZ.out.2.1, HZ.out.2.2, by omega⟩
                case measure => simp [intOf]; omega
              · have hb1 : inB xs.length ((p : Int) + (j : Int)) = false := by simp [inB]; omega
                rw [show rdV xs ((p : Int) + (j : Int)) = 0 by simp [rdV, hb1], show wrE xs.length ((p : Int) + (j : Int)) = 8 by simp [wrE, hb1]] at hr
                have he : onE xs ds p = 8 := by
                  rw [onE, if_pos (by omega), HX.out.1, if_pos HGB.out.1, HGB.out.2.1, if_pos rfl, HGB.out.2.2, if_neg (by omega)]
                have HE := Lib.hid he
                clear he hb1 hob hown hB
                go_wp2_with fail
                refine hr.mono ?_
                rintro e w' ⟨rfl, rfl⟩
                clear hr
                have q0 := heap_cell HI.out.r 0
                have q1 := heap_cell HI.out.r 1
                have q2 := heap_cell HI.out.r 2
                have q3 := heap_cell HI.out.r 3
                have q4 := heap_cell HI.out.r 4
                have q5 := heap_cell HI.out.r 5
                have q6 := heap_cell HI.out.r 6
                have q7 := heap_cell HI.out.r 7
                simp at q0 q1 q2 q3 q4 q5 q6 q7
                have f0 := heap_free HI.out.r 0
                have f1 := heap_free HI.out.r 1
                have f2 := heap_free HI.out.r 2
                have f3 := heap_free HI.out.r 3
                have f4 := heap_free HI.out.r 4
                have f5 := heap_free HI.out.r 5
                have f6 := heap_free HI.out.r 6
                have f7 := heap_free HI.out.r 7
                have o0 := heap_cell HI.out.z 0
                have o1 := heap_cell HI.out.z 1
                have o2 := heap_cell HI.out.z 2
                have o3 := heap_cell HI.out.z 3
                have o4 := heap_cell HI.out.z 4
                have o5 := heap_cell HI.out.z 5
                have o6 := heap_cell HI.out.z 6
                have o7 := heap_cell HI.out.z 7
                simp at o0 o1 o2 o3 o4 o5 o6 o7
                go_wp2
                refine bodyPost_ret (v := .tuple #[.agg #[.int .i64 0, .int .i64 0, .bool false, .int .i64 0, .int .i64 0, .int .i64 0, .slice none 0 0, .slice none 0 0], .int .i64 8]) (by simp [results, Tryd.results18, go_sem, q0, q1, q2, q3, q4, q5, q6, q7]) rfl ?_
                have h8 := (set8_at HI.out.r (.int .i64 0) (.int .i64 0) (.bool false) (.int .i64 0) (.int .i64 0) (.int .i64 0) (.slice none 0 0) (.slice none 0 0)).2
                change OneRet _ _ _ _ _ _ (set8 wr w.heap.size (.int .i64 0) (.int .i64 0) (.bool false) (.int .i64 0) (.int .i64 0) (.int .i64 0) (.slice none 0 0) (.slice none 0 0))
                generalize set8 wr w.heap.size (.int .i64 0) (.int .i64 0) (.bool false) (.int .i64 0) (.int .i64 0) (.int .i64 0) (.slice none 0 0) (.slice none 0 0) = w8 at h8 ⊢
                exact one_no HE.out (by decide) (HI.out.bb.grown h8 HI.out.bb.size (fun k e => by cases e; omega))
            · obtain rfl : j = L.length := by omega
              have he : onE xs ds p = 0 := by
                rw [onE, if_pos (by omega), HX.out.1, if_pos HGB.out.1, HGB.out.2.1, if_pos rfl, HGB.out.2.2, if_pos (by omega)]
              have htl : ((xs.drop p).take L.length).length = L.length := by simp; omega
              obtain ⟨av, cv, rfl, _, _, _⟩ := owns_slice hown
              have hownK := (Moved.of_below hB (fun _ => False)).owns HO3.out.1 (fun _ _ e => e)
              have HZ := Lib.hid (And.intro he (And.intro htl (And.intro hown (And.intro hownK hB))))
              have HOB := Lib.hid hob
              clear he htl hown hownK hob hB
              have q0 := heap_cell HI.out.r 0
              have q1 := heap_cell HI.out.r 1
              have q2 := heap_cell HI.out.r 2
              have q3 := heap_cell HI.out.r 3
              have q4 := heap_cell HI.out.r 4
              have q5 := heap_cell HI.out.r 5
              have q6 := heap_cell HI.out.r 6
              have q7 := heap_cell HI.out.r 7
              simp at q0 q1 q2 q3 q4 q5 q6 q7
              have f0 := heap_free HI.out.r 0
              have f1 := heap_free HI.out.r 1
              have f2 := heap_free HI.out.r 2
              have f3 := heap_free HI.out.r 3
              have f4 := heap_free HI.out.r 4
              have f5 := heap_free HI.out.r 5
              have f6 := heap_free HI.out.r 6
              have f7 := heap_free HI.out.r 7
              have o0 := heap_cell HOB.out 0
              have o1 := heap_cell HOB.out 1
              have o2 := heap_cell HOB.out 2
              have o3 := heap_cell HOB.out 3
              have o4 := heap_cell HOB.out 4
              have o5 := heap_cell HOB.out 5
              have o6 := heap_cell HOB.out 6
              have o7 := heap_cell HOB.out 7
              simp at o0 o1 o2 o3 o4 o5 o6 o7
              go_wp2
              refine bodyPost_ret (v := .tuple #[.agg #[.int .i64 p, .int .i64 0, .bool ga, .int .i64 gk, .int .i64 gt, .int .i64 gn, .slice a3 L.length c3, .slice av L.length cv], .int .i64 0]) (by simp [results, Tryd.results18, go_sem, q0, q1, q2, q3, q4, q5, q6, q7]) rfl ?_
              have h8 := set8_at HI.out.r (.int .i64 p) (.int .i64 0) (.bool ga) (.int .i64 gk) (.int .i64 gt) (.int .i64 gn) (.slice a3 L.length c3) (.slice av L.length cv)
              change OneRet _ _ _ _ _ _ (set8 wr w.heap.size (.int .i64 p) (.int .i64 0) (.bool ga) (.int .i64 gk) (.int .i64 gt) (.int .i64 gn) (.slice a3 L.length c3) (.slice av L.length cv))
              generalize set8 wr w.heap.size (.int .i64 p) (.int .i64 0) (.bool ga) (.int .i64 gk) (.int .i64 gt) (.int .i64 gn) (.slice a3 L.length c3) (.slice av L.length cv) = w8 at h8 ⊢
              have hm8 := Moved.of_grown h8.2 (S := fun q => q = w.heap.size) (fun k e => by cases e; rfl)
              have hsz2 : (w2.alloc (.cells #[.bool ga, .int .i64 gk, .int .i64 gt, .int .i64 gn] 26)).heap.size = w2.heap.size + 1 := by simp
              have k1 := hm8.owns HZ.out.2.2.2.1 (fun q hq e => by have := (HZ.out.2.2.2.1.lt q hq).1; omega)
              have k2 := hm8.owns HZ.out.2.2.1 (fun q hq e => by have := (HZ.out.2.2.1.lt q hq).1; omega)
              obtain ⟨ya, yc, ye, yr, yb, _⟩ := owns_reads k1
              have k3 : w8.ownsRow (w3.heap.size + 1) 44 1 (.slice av L.length cv) ((xs.drop p).take L.length).length (((xs.drop p).take L.length).map (Value.int .u64)) := by rw [HZ.out.2.1]; exact k2
              obtain ⟨za, zc, ze, zr, zb, _⟩ := owns_reads k3
              simp only [Value.slice.injEq] at ye ze
              have h9 := one_yes (O := fun _ => False) (w := w) (w' := w8) (y1 := a3) (y2 := av) (c1 := c3) (c2 := cv) HZ.out.1 HX.out.1 HGB.out.2.2 (by rw [Int.toNat_natCast]; exact HZ.out.2.1) (HI.out.bb.grown h8.2 HI.out.bb.size (fun k e => by cases e; omega)) (by rw [ye.1]; exact yr) (by rw [ze.1, Int.toNat_natCast]; exact zr) (.inr fun q hq => .inr (by have := (yb q (by rw [← ye.1]; exact hq)).1; omega)) (.inr fun q hq => .inr (by have := (zb q (by rw [← ze.1]; exact hq)).1; omega))
              rw [HG.out.1, HG.out.2.1, HG.out.2.2.1, HG.out.2.2.2] at h9
              exact h9
        · have he : onE xs ds p = E := by
            rw [onE, if_pos (by omega), HX.out.1, if_pos HGB.out.1, HGB.out.2.1, if_neg hE0]
          have HE := Lib.hid (And.intro he hE0)
          have y1 : (E != 0) = true := by simp [hE0]
          clear he hE0 ho3 hhd
          have q0 := heap_cell H3.out.r 0
          have q1 := heap_cell H3.out.r 1
          have q2 := heap_cell H3.out.r 2
          have q3 := heap_cell H3.out.r 3
          have q4 := heap_cell H3.out.r 4
          have q5 := heap_cell H3.out.r 5
          have q6 := heap_cell H3.out.r 6
          have q7 := heap_cell H3.out.r 7
          simp at q0 q1 q2 q3 q4 q5 q6 q7
          have f0 := heap_free H3.out.r 0
          have f1 := heap_free H3.out.r 1
          have f2 := heap_free H3.out.r 2
          have f3 := heap_free H3.out.r 3
          have f4 := heap_free H3.out.r 4
          have f5 := heap_free H3.out.r 5
          have f6 := heap_free H3.out.r 6
          have f7 := heap_free H3.out.r 7
          have o0 := heap_cell H3.out.z 0
          have o1 := heap_cell H3.out.z 1
          have o2 := heap_cell H3.out.z 2
          have o3 := heap_cell H3.out.z 3
          have o4 := heap_cell H3.out.z 4
          have o5 := heap_cell H3.out.z 5
          have o6 := heap_cell H3.out.z 6
          have o7 := heap_cell H3.out.z 7
          simp at o0 o1 o2 o3 o4 o5 o6 o7
          go_wp2
          refine bodyPost_ret (v := .tuple #[.agg #[.int .i64 0, .int .i64 0, .bool false, .int .i64 0, .int .i64 0, .int .i64 0, .slice none 0 0, .slice none 0 0], .int .i64 E]) (by simp [results, Tryd.results18, go_sem, q0, q1, q2, q3, q4, q5, q6, q7]) rfl ?_
          have h8 := (set8_at H3.out.r (.int .i64 0) (.int .i64 0) (.bool false) (.int .i64 0) (.int .i64 0) (.int .i64 0) (.slice none 0 0) (.slice none 0 0)).2
          change OneRet _ _ _ _ _ _ (set8 w3 w.heap.size (.int .i64 0) (.int .i64 0) (.bool false) (.int .i64 0) (.int .i64 0) (.int .i64 0) (.slice none 0 0) (.slice none 0 0))
          generalize set8 w3 w.heap.size (.int .i64 0) (.int .i64 0) (.bool false) (.int .i64 0) (.int .i64 0) (.int .i64 0) (.slice none 0 0) (.slice none 0 0) = w8 at h8 ⊢
          exact one_no HE.out.1 HE.out.2 (H3.out.bb.grown h8 H3.out.bb.size (fun k e => by cases e; omega))
end Go.Proofs.YtojcdljpgginjaaDoor
