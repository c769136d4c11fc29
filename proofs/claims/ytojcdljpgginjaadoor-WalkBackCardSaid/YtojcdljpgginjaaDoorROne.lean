/-
  The document's One: the object at a word.
-/
import Derived.Test.YtojcdljpgginjaaDoorWOne
import Derived.Test.YtojcdljpgginjaaDoorRKindsO
import Derived.RegionTactic
namespace Go.Proofs.YtojcdljpgginjaaDoor
open Go Go.RowKit

/-- What stays while the document's One runs. -/
structure RnInv (O : Addr → Prop) (w0 : World) (la : Option Addr) (xs : List Int) (ta : Option Addr) (ds : List (List Int)) (w : World) : Prop where
  r : w.heap[w0.heap.size]? = some (.cells #[.int .i64 0, .int .i64 0, .bool false, .int .i64 0, .int .i64 0, .int .i64 0, .slice none 0 0, .slice none 0 0] 53 (0, 0))
  bb : Below w0.heap.size w0 w
  x : Reads .u64 w la xs
  d : Descs w ta ds
  o : DescsO O w ta ds
theorem RnInv.below {O : Addr → Prop} {w0 : World} {la : Option Addr} {xs : List Int} {ta : Option Addr} {ds : List (List Int)} {w w' : World} (h : RnInv O w0 la xs ta ds w) (hb : Below w.heap.size w w') : RnInv O w0 la xs ta ds w' :=
  ⟨heap_below hb h.r (heap_lt h.r), h.bb.trans (hb.mono h.bb.size), h.x.below hb, h.d.below hb, h.o.below h.d hb⟩

theorem Reads.cut {k : IntKind} {w : World} {b off : Nat} {xs : List Int} (h : Reads k w (some ⟨b, off, none⟩) xs) (p m : Nat) (hm : p + m ≤ xs.length) : Reads k w (some ⟨b, off + p, none⟩) ((xs.drop p).take m) := by
  rcases h with rfl | ⟨b', off', ha, hc⟩
  · exact .inl (by simp)
  · cases ha
    refine .inr ⟨b, off + p, rfl, fun i hi => ?_⟩
    simp at hi
    have := hc (p + i) (by omega)
    rw [Nat.add_assoc, this]
    have h9 : p + i < xs.length := by omega
    simp [hi, h9]

set_option maxRecDepth 100000 in
set_option maxHeartbeats 1600000 in
theorem rOne_any (O : Addr → Prop) (la : Option Addr) (xs : List Int) (lc : Nat) (at_ : Int) (ta : Option Addr) (ds : List (List Int)) (tc : Nat) (w : World) (hX : Reads .u64 w la xs) (hm : xs.length ≤ 16384) (hcap : xs.length ≤ lc) (hcm : lc ≤ 9223372036854775807) (hD : Descs w ta ds) (hO : DescsO O w ta ds) (hOx : xs = [] ∨ ∀ p q, la = some p → q.block = p.block → O q) (hOw : ∀ q, O q → q.block < w.heap.size) (hd : ∀ d ∈ ds, d.length ≤ 100) (hx : ∀ v ∈ xs, 0 ≤ v ∧ v < 18446744073709551616) (ha : at_ ≤ 9223372036854775807) :
    Calls Tryd.prog 19 #[.slice la xs.length lc, .int .i64 at_, .slice ta ds.length tc] w (OneRet O xs ds at_ w) := by
  obtain ⟨W, hW⟩ : ∃ W, W = w.alloc (.cells #[.int .i64 0, .int .i64 0, .bool false, .int .i64 0, .int .i64 0, .int .i64 0, .slice none 0 0, .slice none 0 0] 53) := ⟨_, rfl⟩
  have hbo : Below w.heap.size w W := by rw [hW]; exact (Below.refl _ _).alloc (Nat.le_refl _) _
  have hO1 : W.heap[w.heap.size]? = some (.cells #[.int .i64 0, .int .i64 0, .bool false, .int .i64 0, .int .i64 0, .int .i64 0, .slice none 0 0, .slice none 0 0] 53 (0, 0)) := by rw [hW]; exact heap_alloc_eq _ _
  have H0 : Hid (RnInv O w la xs ta ds W) := Lib.hid ⟨hO1, hbo, hX.below hbo, hD.below hbo, hO.below hD hbo⟩
  have HW := Lib.hid hW
  have HD := Lib.hid (And.intro hd (And.intro hx (And.intro hOx hOw)))
  clear hW hbo hO1 hX hD hO hd hx hOx hOw
  by_cases h1 : at_ < 1
  · have he : onE xs ds at_ = 8 := by rw [onE, if_neg (by omega)]
    have HE := Lib.hid he
    clear he
    go_enter Tryd.func19, Tryd.ntmps19
    go_wp2_with fail
    rw [← HW.out]
    have q0 := heap_cell H0.out.r 0
    have q1 := heap_cell H0.out.r 1
    have q2 := heap_cell H0.out.r 2
    have q3 := heap_cell H0.out.r 3
    have q4 := heap_cell H0.out.r 4
    have q5 := heap_cell H0.out.r 5
    have q6 := heap_cell H0.out.r 6
    have q7 := heap_cell H0.out.r 7
    simp at q0 q1 q2 q3 q4 q5 q6 q7
    have f0 := heap_free H0.out.r 0
    have f1 := heap_free H0.out.r 1
    have f2 := heap_free H0.out.r 2
    have f3 := heap_free H0.out.r 3
    have f4 := heap_free H0.out.r 4
    have f5 := heap_free H0.out.r 5
    have f6 := heap_free H0.out.r 6
    have f7 := heap_free H0.out.r 7
    go_wp2
    refine bodyPost_ret (v := .tuple #[.agg #[.int .i64 0, .int .i64 0, .bool false, .int .i64 0, .int .i64 0, .int .i64 0, .slice none 0 0, .slice none 0 0], .int .i64 8]) (by simp [results, Tryd.results19, go_sem, q0, q1, q2, q3, q4, q5, q6, q7]) rfl ?_
    first
      | (with_reducible exact one_no HE.out (by decide) H0.out.bb)
      | (have h8 := (set8_at H0.out.r (.int .i64 0) (.int .i64 0) (.bool false) (.int .i64 0) (.int .i64 0) (.int .i64 0) (.slice none 0 0) (.slice none 0 0)).2
         change OneRet _ _ _ _ _ _ (set8 W w.heap.size (.int .i64 0) (.int .i64 0) (.bool false) (.int .i64 0) (.int .i64 0) (.int .i64 0) (.slice none 0 0) (.slice none 0 0))
         generalize set8 W w.heap.size (.int .i64 0) (.int .i64 0) (.bool false) (.int .i64 0) (.int .i64 0) (.int .i64 0) (.slice none 0 0) (.slice none 0 0) = w8 at h8 ⊢
         exact one_no HE.out (by decide) (H0.out.bb.grown h8 H0.out.bb.size (fun k e => by cases e; omega)))
  · obtain ⟨p, rfl⟩ := Int.eq_ofNat_of_zero_le (show 0 ≤ at_ by omega)
    have h1' : (1 : Int) ≤ (p : Int) := by omega
    by_cases h2 : xs.length < p
    · have he : onE xs ds p = 8 := by rw [onE, if_neg (by omega)]
      have HE := Lib.hid he
      have h5 : (xs.length : Int) < (p : Int) := by omega
      clear he
      go_enter Tryd.func19, Tryd.ntmps19
      go_wp2_with fail
      rw [← HW.out]
      have q0 := heap_cell H0.out.r 0
      have q1 := heap_cell H0.out.r 1
      have q2 := heap_cell H0.out.r 2
      have q3 := heap_cell H0.out.r 3
      have q4 := heap_cell H0.out.r 4
      have q5 := heap_cell H0.out.r 5
      have q6 := heap_cell H0.out.r 6
      have q7 := heap_cell H0.out.r 7
      simp at q0 q1 q2 q3 q4 q5 q6 q7
      have f0 := heap_free H0.out.r 0
      have f1 := heap_free H0.out.r 1
      have f2 := heap_free H0.out.r 2
      have f3 := heap_free H0.out.r 3
      have f4 := heap_free H0.out.r 4
      have f5 := heap_free H0.out.r 5
      have f6 := heap_free H0.out.r 6
      have f7 := heap_free H0.out.r 7
      go_wp2
      refine bodyPost_ret (v := .tuple #[.agg #[.int .i64 0, .int .i64 0, .bool false, .int .i64 0, .int .i64 0, .int .i64 0, .slice none 0 0, .slice none 0 0], .int .i64 8]) (by simp [results, Tryd.results19, go_sem, q0, q1, q2, q3, q4, q5, q6, q7]) rfl ?_
      first
        | (with_reducible exact one_no HE.out (by decide) H0.out.bb)
        | (have h8 := (set8_at H0.out.r (.int .i64 0) (.int .i64 0) (.bool false) (.int .i64 0) (.int .i64 0) (.int .i64 0) (.slice none 0 0) (.slice none 0 0)).2
           change OneRet _ _ _ _ _ _ (set8 W w.heap.size (.int .i64 0) (.int .i64 0) (.bool false) (.int .i64 0) (.int .i64 0) (.int .i64 0) (.slice none 0 0) (.slice none 0 0))
           generalize set8 W w.heap.size (.int .i64 0) (.int .i64 0) (.bool false) (.int .i64 0) (.int .i64 0) (.int .i64 0) (.slice none 0 0) (.slice none 0 0) = w8 at h8 ⊢
           exact one_no HE.out (by decide) (H0.out.bb.grown h8 H0.out.bb.size (fun k e => by cases e; omega)))
    · have hp1 : p ≤ xs.length := by omega
      have h5 : ¬ (xs.length : Int) < (p : Int) := by omega
      have h4 : (p : Int) ≤ 16384 := by omega
      obtain ⟨x, hx⟩ : ∃ x, onX xs p = x := ⟨_, rfl⟩
      have h6 : p - 1 < xs.length := by omega
      have hxw : 0 ≤ x ∧ x < 18446744073709551616 := by
        have h7 : ((p : Int) - 1).toNat < xs.length := by omega
        rw [onX, List.getD_eq_getElem?_getD, List.getElem?_eq_getElem h7] at hx
        rw [← hx]
        exact HD.out.2.1 _ (List.getElem_mem h7)
      obtain ⟨bx, ox, rfl, hc⟩ := H0.out.x.at_ (p - 1) h6
      rw [show xs[p - 1]?.getD 0 = x by rw [← hx, onX, List.getD_eq_getElem?_getD, show ((p : Int) - 1).toNat = p - 1 by omega]] at hc
      have hc' := hc
      rw [HW.out] at hc'
      have HX := Lib.hid (And.intro hx hxw)
      have i1 : (0 : Int) ≤ (p : Int) - 1 := by omega
      have i2 : (p : Int) - 1 < (xs.length : Int) := by omega
      have i3 : ((p : Int) - 1).toNat = p - 1 := by omega
      clear hx hxw
      have hget := rGet_any x W HX.out.2.1 HX.out.2.2
      cases hgb : getB x
      · have he : onE xs ds p = 11 := by rw [onE, if_pos (by omega), HX.out.1, if_neg (by simp [hgb])]
        have HE := Lib.hid he
        rw [show getV x = .agg #[.bool false, .int .i64 0, .int .i64 0, .int .i64 0] by simp [getV, hgb], show getE x = 11 by simp [getE, hgb]] at hget
        clear he hgb
        go_enter Tryd.func19, Tryd.ntmps19
        go_wp2_with fail
        rw [← HW.out]
        go_wp2_with fail
        refine hget.mono ?_
        rintro e w2 ⟨rfl, hb⟩
        have H2 := Lib.hid ((H0.out.below hb).below (Below.alloc (Below.refl w2.heap.size w2) (Nat.le_refl _) (.cells #[.bool false, .int .i64 0, .int .i64 0, .int .i64 0] 26)))
        clear hget hb hc hc'
        have q0 := heap_cell H2.out.r 0
        have q1 := heap_cell H2.out.r 1
        have q2 := heap_cell H2.out.r 2
        have q3 := heap_cell H2.out.r 3
        have q4 := heap_cell H2.out.r 4
        have q5 := heap_cell H2.out.r 5
        have q6 := heap_cell H2.out.r 6
        have q7 := heap_cell H2.out.r 7
        simp at q0 q1 q2 q3 q4 q5 q6 q7
        have f0 := heap_free H2.out.r 0
        have f1 := heap_free H2.out.r 1
        have f2 := heap_free H2.out.r 2
        have f3 := heap_free H2.out.r 3
        have f4 := heap_free H2.out.r 4
        have f5 := heap_free H2.out.r 5
        have f6 := heap_free H2.out.r 6
        have f7 := heap_free H2.out.r 7
        go_wp2
        refine bodyPost_ret (v := .tuple #[.agg #[.int .i64 0, .int .i64 0, .bool false, .int .i64 0, .int .i64 0, .int .i64 0, .slice none 0 0, .slice none 0 0], .int .i64 11]) (by simp [results, Tryd.results19, go_sem, q0, q1, q2, q3, q4, q5, q6, q7]) rfl ?_
        first
          | (with_reducible exact one_no HE.out (by decide) H2.out.bb)
          | (have h8 := (set8_at H2.out.r (.int .i64 0) (.int .i64 0) (.bool false) (.int .i64 0) (.int .i64 0) (.int .i64 0) (.slice none 0 0) (.slice none 0 0)).2
             change OneRet _ _ _ _ _ _ (set8 (w2.alloc (.cells #[.bool false, .int .i64 0, .int .i64 0, .int .i64 0] 26)) w.heap.size (.int .i64 0) (.int .i64 0) (.bool false) (.int .i64 0) (.int .i64 0) (.int .i64 0) (.slice none 0 0) (.slice none 0 0))
             generalize set8 (w2.alloc (.cells #[.bool false, .int .i64 0, .int .i64 0, .int .i64 0] 26)) w.heap.size (.int .i64 0) (.int .i64 0) (.bool false) (.int .i64 0) (.int .i64 0) (.int .i64 0) (.slice none 0 0) (.slice none 0 0) = w8 at h8 ⊢
             exact one_no HE.out (by decide) (H2.out.bb.grown h8 H2.out.bb.size (fun k e => by cases e; omega)))
      · rw [show getV x = .agg #[.bool (gA x), .int .i64 (gK x), .int .i64 (gT x), .int .i64 (gN x)] by simp [getV, hgb], show getE x = 0 by simp [getE, hgb]] at hget
        obtain ⟨E, hE⟩ : ∃ q, knE ds (gA x) (gK x) (gT x) (gN x) = q := ⟨_, rfl⟩
        obtain ⟨L, hL⟩ : ∃ q, knL ds (gA x) (gK x) (gT x) (gN x) = q := ⟨_, rfl⟩
        have hL4 : L.length ≤ 4000 := by rw [← hL]; exact knL_length HD.out.1
        have HGB := Lib.hid (And.intro hgb (And.intro hE hL))
        obtain ⟨ga, hga⟩ : ∃ q, gA x = q := ⟨_, rfl⟩
        obtain ⟨gk, hgk⟩ : ∃ q, gK x = q := ⟨_, rfl⟩
        obtain ⟨gt, hgt⟩ : ∃ q, gT x = q := ⟨_, rfl⟩
        obtain ⟨gn, hgn⟩ : ∃ q, gN x = q := ⟨_, rfl⟩
        rw [hga, hgk, hgt, hgn] at hget
        have HG := Lib.hid (And.intro hga (And.intro hgk (And.intro hgt hgn)))
        clear hgb hE hL hga hgk hgt hgn
        go_enter Tryd.func19, Tryd.ntmps19
        go_wp2_with fail
        rw [← HW.out]
        go_wp2_with fail
        refine hget.mono ?_
        rintro e w2 ⟨rfl, hb⟩
        have H2 := Lib.hid ((H0.out.below hb).below (Below.alloc (Below.refl w2.heap.size w2) (Nat.le_refl _) (.cells #[.bool ga, .int .i64 gk, .int .i64 gt, .int .i64 gn] 26)))
        clear hget hb hc hc'
        have hk := rKindsO_any O ta ds tc ga gk gt gn (w2.alloc (.cells #[.bool ga, .int .i64 gk, .int .i64 gt, .int .i64 gn] 26)) H2.out.d H2.out.o
        have e7 := HGB.out.2
        rw [HG.out.1, HG.out.2.1, HG.out.2.2.1, HG.out.2.2.2] at e7
        rw [e7.1, e7.2] at hk
        clear e7
        go_wp2_with fail
        refine hk.mono ?_
        rintro e w3 ⟨a3, c3, rfl, hb3, hr3, hn3, hp3⟩
        have H3 := Lib.hid (H2.out.below hb3)
        have hhd := heap_below hb3 (heap_alloc_eq w2 (.cells #[.bool ga, .int .i64 gk, .int .i64 gt, .int .i64 gn] 26)) (by simp)
        have HR3 := Lib.hid (And.intro hr3 (And.intro hp3 hhd))
        clear hk hb3 hr3 hp3 hn3 hhd
        by_cases hE0 : E = 0
        · subst hE0
          by_cases hfit : p + L.length ≤ xs.length
          · have z1 : ¬ (xs.length : Int) < (p : Int) + (L.length : Int) := by omega
            have z2 : (p : Int) + (L.length : Int) ≤ (lc : Int) := by omega
            have z3 : (p : Int) ≤ (p : Int) + (L.length : Int) := by omega
            have z4 : ((p : Int) + (L.length : Int)).toNat = p + L.length := by omega
            have z5 : (0 : Int) ≤ (p : Int) + (L.length : Int) := by omega
            have z6 : IntKind.i64.wrap ((p : Int) + (L.length : Int)) = (p : Int) + (L.length : Int) := by rw [IntKind.wrap_i64]; omega
            have he : onE xs ds p = 0 := by
              rw [onE, if_pos (by omega), HX.out.1, if_pos HGB.out.1, HGB.out.2.1, if_pos rfl, HGB.out.2.2, if_pos (by omega)]
            have HE := Lib.hid he
            have d0 := heap_cell HR3.out.2.2 0
            have d1 := heap_cell HR3.out.2.2 1
            have d2 := heap_cell HR3.out.2.2 2
            have d3 := heap_cell HR3.out.2.2 3
            simp at d0 d1 d2 d3
            clear he
            have q0 := heap_cell H3.out.r 0
            have q1 := heap_cell H3.out.r 1
            have q2 := heap_cell H3.out.r 2
            have q3 := heap_cell H3.out.r 3
            have q4 := heap_cell H3.out.r 4
            have q5 := heap_cell H3.out.r 5
            have q6 := heap_cell H3.out.r 6
            have q7 := heap_cell H3.out.r 7
            simp at q0 q1 q2 q3 q4 q5 q6 q7
            have f0 := heap_free H3.out.r 0
            have f1 := heap_free H3.out.r 1
            have f2 := heap_free H3.out.r 2
            have f3 := heap_free H3.out.r 3
            have f4 := heap_free H3.out.r 4
            have f5 := heap_free H3.out.r 5
            have f6 := heap_free H3.out.r 6
            have f7 := heap_free H3.out.r 7
            by_cases hlp : lc = p
            · have hlp' := hlp.symm
              subst hlp'
              clear hlp
              go_wp2
              go_region
              go_wp2
              have h8 := set8_at H3.out.r (.int .i64 p) (.int .i64 0) (.bool ga) (.int .i64 gk) (.int .i64 gt) (.int .i64 gn) (.slice a3 L.length c3) (.slice (some ⟨bx, ox, none⟩) L.length 0)
              change bodyPost _ _ _ _ _ ((set8 w3 w.heap.size (.int .i64 p) (.int .i64 0) (.bool ga) (.int .i64 gk) (.int .i64 gt) (.int .i64 gn) (.slice a3 L.length c3) (.slice (some ⟨bx, ox, none⟩) L.length 0)).drew)
              generalize set8 w3 w.heap.size (.int .i64 p) (.int .i64 0) (.bool ga) (.int .i64 gk) (.int .i64 gt) (.int .i64 gn) (.slice a3 L.length c3) (.slice (some ⟨bx, ox, none⟩) L.length 0) = W8 at h8 ⊢
              obtain ⟨hO8, hg8⟩ := h8
              have hm8 := (Moved.of_grown hg8 (S := fun q => q = w.heap.size) (fun k e => by cases e; rfl)).trans (Moved.drew (fun q => q = w.heap.size) _) (fun _ h => .inl h)
              have hO9 : W8.drew.heap[w.heap.size]? = _ := hO8
              generalize W8.drew = w8 at hm8 hO9 ⊢
              clear q0 q1 q2 q3 q4 q5 q6 q7 f0 f1 f2 f3 f4 f5 f6 f7 d0 d1 d2 d3
              have q0 := heap_cell hO9 0
              have q1 := heap_cell hO9 1
              have q2 := heap_cell hO9 2
              have q3 := heap_cell hO9 3
              have q4 := heap_cell hO9 4
              have q5 := heap_cell hO9 5
              have q6 := heap_cell hO9 6
              have q7 := heap_cell hO9 7
              simp at q0 q1 q2 q3 q4 q5 q6 q7
              refine bodyPost_ret (v := .tuple #[.agg #[.int .i64 p, .int .i64 0, .bool ga, .int .i64 gk, .int .i64 gt, .int .i64 gn, .slice a3 L.length c3, .slice (some ⟨bx, ox, none⟩) L.length 0], .int .i64 0]) (by simp [results, Tryd.results19, go_sem, q0, q1, q2, q3, q4, q5, q6, q7]) rfl ?_
              have hne : xs ≠ [] := by intro e; rw [e] at h6; simp at h6
              have hOb : ∀ q : Addr, q.block = bx → O q := fun q hq => (HD.out.2.2.1.resolve_left hne) _ q rfl hq
              have hbl : bx < w.heap.size := HD.out.2.2.2 ⟨bx, ox, none⟩ (hOb _ rfl)
              have hsz2 : (w2.alloc (.cells #[.bool ga, .int .i64 gk, .int .i64 gt, .int .i64 gn] 26)).heap.size = w2.heap.size + 1 := by simp
              have hs2 := heap_lt H2.out.r
              have hK8 : Reads .i64 w8 a3 L := by
                rcases HR3.out.2.1 with h | h
                · exact .inl h
                · refine hm8.reads HR3.out.1 (fun q hq e => ?_)
                  rcases h q hq with h9 | h9
                  · have := HD.out.2.2.2 q h9; omega
                  · omega
              have hV8 : Reads .u64 w8 (some ⟨bx, ox, none⟩) ((xs.drop p).take L.length) := by
                refine .inl ?_
                rw [show L.length = 0 by omega]
                simp
              have h9 := one_yes (O := O) (w := w) (w' := w8) (y1 := a3) (y2 := some ⟨bx, ox, none⟩) (c1 := c3) (c2 := 0) HE.out HX.out.1 HGB.out.2.2 (by rw [Int.toNat_natCast]; simp; omega) (Moved.below H3.out.bb hm8 H3.out.bb.size (fun q hq => by omega)) hK8 (by rw [Int.toNat_natCast]; exact hV8) (HR3.out.2.1.imp_right fun h q hq => (h q hq).imp_right fun h9 => by omega) (.inr fun q hq => .inl (by cases hq; exact hOb _ rfl))
              rw [HG.out.1, HG.out.2.1, HG.out.2.2.1, HG.out.2.2.2] at h9
              exact h9
            · go_wp2
              go_region
              go_wp2
              have h8 := set8_at H3.out.r (.int .i64 p) (.int .i64 0) (.bool ga) (.int .i64 gk) (.int .i64 gt) (.int .i64 gn) (.slice a3 L.length c3) (.slice (some ⟨bx, ox + p, none⟩) L.length (lc - p))
              change bodyPost _ _ _ _ _ ((set8 w3 w.heap.size (.int .i64 p) (.int .i64 0) (.bool ga) (.int .i64 gk) (.int .i64 gt) (.int .i64 gn) (.slice a3 L.length c3) (.slice (some ⟨bx, ox + p, none⟩) L.length (lc - p))).drew)
              generalize set8 w3 w.heap.size (.int .i64 p) (.int .i64 0) (.bool ga) (.int .i64 gk) (.int .i64 gt) (.int .i64 gn) (.slice a3 L.length c3) (.slice (some ⟨bx, ox + p, none⟩) L.length (lc - p)) = W8 at h8 ⊢
              obtain ⟨hO8, hg8⟩ := h8
              have hm8 := (Moved.of_grown hg8 (S := fun q => q = w.heap.size) (fun k e => by cases e; rfl)).trans (Moved.drew (fun q => q = w.heap.size) _) (fun _ h => .inl h)
              have hO9 : W8.drew.heap[w.heap.size]? = _ := hO8
              generalize W8.drew = w8 at hm8 hO9 ⊢
              clear q0 q1 q2 q3 q4 q5 q6 q7 f0 f1 f2 f3 f4 f5 f6 f7 d0 d1 d2 d3
              have q0 := heap_cell hO9 0
              have q1 := heap_cell hO9 1
              have q2 := heap_cell hO9 2
              have q3 := heap_cell hO9 3
              have q4 := heap_cell hO9 4
              have q5 := heap_cell hO9 5
              have q6 := heap_cell hO9 6
              have q7 := heap_cell hO9 7
              simp at q0 q1 q2 q3 q4 q5 q6 q7
              refine bodyPost_ret (v := .tuple #[.agg #[.int .i64 p, .int .i64 0, .bool ga, .int .i64 gk, .int .i64 gt, .int .i64 gn, .slice a3 L.length c3, .slice (some ⟨bx, ox + p, none⟩) L.length (lc - p)], .int .i64 0]) (by simp [results, Tryd.results19, go_sem, q0, q1, q2, q3, q4, q5, q6, q7]) rfl ?_
              have hne : xs ≠ [] := by intro e; rw [e] at h6; simp at h6
              have hOb : ∀ q : Addr, q.block = bx → O q := fun q hq => (HD.out.2.2.1.resolve_left hne) _ q rfl hq
              have hbl : bx < w.heap.size := HD.out.2.2.2 ⟨bx, ox, none⟩ (hOb _ rfl)
              have hsz2 : (w2.alloc (.cells #[.bool ga, .int .i64 gk, .int .i64 gt, .int .i64 gn] 26)).heap.size = w2.heap.size + 1 := by simp
              have hs2 := heap_lt H2.out.r
              have hK8 : Reads .i64 w8 a3 L := by
                rcases HR3.out.2.1 with h | h
                · exact .inl h
                · refine hm8.reads HR3.out.1 (fun q hq e => ?_)
                  rcases h q hq with h9 | h9
                  · have := HD.out.2.2.2 q h9; omega
                  · omega
              have hV8 : Reads .u64 w8 (some ⟨bx, ox + p, none⟩) ((xs.drop p).take L.length) := by
                refine hm8.reads (Reads.cut H3.out.x p L.length hfit) (fun q hq => ?_)
                cases hq
                show ¬ bx = w.heap.size
                omega
              have h9 := one_yes (O := O) (w := w) (w' := w8) (y1 := a3) (y2 := some ⟨bx, ox + p, none⟩) (c1 := c3) (c2 := (lc - p)) HE.out HX.out.1 HGB.out.2.2 (by rw [Int.toNat_natCast]; simp; omega) (Moved.below H3.out.bb hm8 H3.out.bb.size (fun q hq => by omega)) hK8 (by rw [Int.toNat_natCast]; exact hV8) (HR3.out.2.1.imp_right fun h q hq => (h q hq).imp_right fun h9 => by omega) (.inr fun q hq => .inl (by cases hq; exact hOb _ rfl))
              rw [HG.out.1, HG.out.2.1, HG.out.2.2.1, HG.out.2.2.2] at h9
              exact h9
          · have z1 : (xs.length : Int) < (p : Int) + (L.length : Int) := by omega
            have he : onE xs ds p = 8 := by
              rw [onE, if_pos (by omega), HX.out.1, if_pos HGB.out.1, HGB.out.2.1, if_pos rfl, HGB.out.2.2, if_neg (by omega)]
            have HE := Lib.hid he
            clear he hfit
            have q0 := heap_cell H3.out.r 0
            have q1 := heap_cell H3.out.r 1
            have q2 := heap_cell H3.out.r 2
            have q3 := heap_cell H3.out.r 3
            have q4 := heap_cell H3.out.r 4
            have q5 := heap_cell H3.out.r 5
            have q6 := heap_cell H3.out.r 6
            have q7 := heap_cell H3.out.r 7
            simp at q0 q1 q2 q3 q4 q5 q6 q7
            have f0 := heap_free H3.out.r 0
            have f1 := heap_free H3.out.r 1
            have f2 := heap_free H3.out.r 2
            have f3 := heap_free H3.out.r 3
            have f4 := heap_free H3.out.r 4
            have f5 := heap_free H3.out.r 5
            have f6 := heap_free H3.out.r 6
            have f7 := heap_free H3.out.r 7
            go_wp2
            refine bodyPost_ret (v := .tuple #[.agg #[.int .i64 0, .int .i64 0, .bool false, .int .i64 0, .int .i64 0, .int .i64 0, .slice none 0 0, .slice none 0 0], .int .i64 8]) (by simp [results, Tryd.results19, go_sem, q0, q1, q2, q3, q4, q5, q6, q7]) rfl ?_
            first
              | (with_reducible exact one_no HE.out (by decide) H3.out.bb)
              | (have h8 := (set8_at H3.out.r (.int .i64 0) (.int .i64 0) (.bool false) (.int .i64 0) (.int .i64 0) (.int .i64 0) (.slice none 0 0) (.slice none 0 0)).2
                 change OneRet _ _ _ _ _ _ (set8 w3 w.heap.size (.int .i64 0) (.int .i64 0) (.bool false) (.int .i64 0) (.int .i64 0) (.int .i64 0) (.slice none 0 0) (.slice none 0 0))
                 generalize set8 w3 w.heap.size (.int .i64 0) (.int .i64 0) (.bool false) (.int .i64 0) (.int .i64 0) (.int .i64 0) (.slice none 0 0) (.slice none 0 0) = w8 at h8 ⊢
                 exact one_no HE.out (by decide) (H3.out.bb.grown h8 H3.out.bb.size (fun k e => by cases e; omega)))
        · have he : onE xs ds p = E := by
            rw [onE, if_pos (by omega), HX.out.1, if_pos HGB.out.1, HGB.out.2.1, if_neg hE0]
          have HE := Lib.hid (And.intro he hE0)
          have y1 : (E != 0) = true := by simp [hE0]
          clear he hE0
          have q0 := heap_cell H3.out.r 0
          have q1 := heap_cell H3.out.r 1
          have q2 := heap_cell H3.out.r 2
          have q3 := heap_cell H3.out.r 3
          have q4 := heap_cell H3.out.r 4
          have q5 := heap_cell H3.out.r 5
          have q6 := heap_cell H3.out.r 6
          have q7 := heap_cell H3.out.r 7
          simp at q0 q1 q2 q3 q4 q5 q6 q7
          have f0 := heap_free H3.out.r 0
          have f1 := heap_free H3.out.r 1
          have f2 := heap_free H3.out.r 2
          have f3 := heap_free H3.out.r 3
          have f4 := heap_free H3.out.r 4
          have f5 := heap_free H3.out.r 5
          have f6 := heap_free H3.out.r 6
          have f7 := heap_free H3.out.r 7
          go_wp2
          refine bodyPost_ret (v := .tuple #[.agg #[.int .i64 0, .int .i64 0, .bool false, .int .i64 0, .int .i64 0, .int .i64 0, .slice none 0 0, .slice none 0 0], .int .i64 E]) (by simp [results, Tryd.results19, go_sem, q0, q1, q2, q3, q4, q5, q6, q7]) rfl ?_
          first
            | (with_reducible exact one_no HE.out.1 HE.out.2 H3.out.bb)
            | (have h8 := (set8_at H3.out.r (.int .i64 0) (.int .i64 0) (.bool false) (.int .i64 0) (.int .i64 0) (.int .i64 0) (.slice none 0 0) (.slice none 0 0)).2
               change OneRet _ _ _ _ _ _ (set8 w3 w.heap.size (.int .i64 0) (.int .i64 0) (.bool false) (.int .i64 0) (.int .i64 0) (.int .i64 0) (.slice none 0 0) (.slice none 0 0))
               generalize set8 w3 w.heap.size (.int .i64 0) (.int .i64 0) (.bool false) (.int .i64 0) (.int .i64 0) (.int .i64 0) (.slice none 0 0) (.slice none 0 0) = w8 at h8 ⊢
               exact one_no HE.out.1 HE.out.2 (H3.out.bb.grown h8 H3.out.bb.size (fun k e => by cases e; omega)))
end Go.Proofs.YtojcdljpgginjaaDoor
