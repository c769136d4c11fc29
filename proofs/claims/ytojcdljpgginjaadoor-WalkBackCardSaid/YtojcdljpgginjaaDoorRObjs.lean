/-
  The document's Objects.
-/
import Derived.Test.YtojcdljpgginjaaDoorObjs
import Derived.Test.YtojcdljpgginjaaDoorROne
namespace Go.Proofs.YtojcdljpgginjaaDoor
open Go Go.RowKit Go.Shelf

/-- Where a thing's object begins, as the document asks. -/
def rAt (xs : List Int) (f : Int) : Int := if 0 ≤ f ∧ f < xs.length then f + 1 else -1
theorem onE_le0 {xs : List Int} {ds : List (List Int)} {a : Int} (h : a < 1 ∨ (xs.length : Int) < a) : onE xs ds a = 8 := by rw [onE, if_neg (by omega)]
theorem thA_out {xs : List Int} {ds : List (List Int)} {f : Int} (h1 : -9223372036854775808 ≤ f ∧ f ≤ 9223372036854775807) (h : ¬ (0 ≤ f ∧ f < xs.length)) : onE xs ds (thA f) = 8 := by
  apply onE_le0
  rw [thA]
  by_cases h0 : 0 ≤ f
  · rw [if_pos h0]
    by_cases h9 : f = 9223372036854775807
    · subst h9; left; simp [wrap64]
    · right
      rw [show wrap64 (f + 1) = f + 1 by simp [wrap64]; omega]
      omega
  · rw [if_neg h0]; left; omega
theorem rAt_same {xs : List Int} {f : Int} (hl : xs.length ≤ 16384) (h : 0 ≤ f ∧ f < xs.length) : rAt xs f = thA f := by
  rw [rAt, if_pos h, thA, if_pos h.1]
  simp [wrap64]
  omega

/-- Between the rounds of the document's Objects. -/
structure RV (xs : List Int) (rs : List (Int × Int)) (ds : List (List Int)) (w : World) (v : Value) (flat : List Value) (q : Nat) (W : World) : Prop where
  own : W.ownsRow w.heap.size 53 8 v q flat
  objs : ∀ j, j < q → ∀ (f k : Int), rs[j]? = some (f, k) → thE xs ds f k = 0 ∧ ObjIn xs ds W (fun b => v.ownBlock = some b) flat j (thA f)
  hb : Below w.heap.size w W
section
variable {xs : List Int} {rs : List (Int × Int)} {ds : List (List Int)} {w : World} {v : Value} {flat : List Value} {q : Nat} {W W' : World}
theorem RV.below (h : RV xs rs ds w v flat q W) (hb : Below W.heap.size W W') : RV xs rs ds w v flat q W' :=
  ⟨owns_below h.own hb, fun j hj f k hjk => ⟨(h.objs j hj f k hjk).1, (h.objs j hj f k hjk).2.turn (Moved.of_below hb (fun _ => False)) (fun _ _ h => h.elim) (fun _ _ h => h)⟩, h.hb.trans (hb.mono h.hb.size)⟩
theorem RV.snoc (h : RV xs rs ds w v flat q W) {f k : Int} (hrs : rs[q]? = some (f, k)) (hth : thE xs ds f k = 0) (tmp : Obj) {y1 y2 : Option Addr} {c1 c2 : Nat} {v' : Value}
    (ho : W'.ownsRow w.heap.size 53 8 v' (q + 1) (flat ++ objCells xs ds (thA f) y1 y2 c1 c2)) (hg : (W.alloc tmp).grownBy W' v.ownBlock) (hv : v'.ownBlock = v.ownBlock ∨ ∀ k, v'.ownBlock = some k → (W.alloc tmp).heap.size ≤ k)
    (r1 : Reads .i64 W y1 (onK xs ds (thA f))) (r2 : Reads .u64 W y2 (onV xs ds (thA f)))
    (p1 : onK xs ds (thA f) = [] ∨ ∀ p, y1 = some p → ¬ (v.ownBlock = some p.block)) (p2 : onV xs ds (thA f) = [] ∨ ∀ p, y2 = some p → ¬ (v.ownBlock = some p.block)) :
    RV xs rs ds w v' (flat ++ objCells xs ds (thA f) y1 y2 c1 c2) (q + 1) W' := by
  have hm : Moved (fun b => v.ownBlock = some b) W W' := (Moved.alloc _ W tmp).trans (.of_grown hg (fun k e => e)) (fun q e => .inl e)
  have hlen : flat.length = q * 8 := h.own.1
  refine ⟨ho, ?_, hm.below h.hb h.hb.size (fun b e => (h.own.lt b e).1)⟩
  intro j hj f' k' hjk
  have hin : thE xs ds f' k' = 0 ∧ ObjIn xs ds W (fun b => v.ownBlock = some b) (flat ++ objCells xs ds (thA f) y1 y2 c1 c2) j (thA f') := by
    by_cases hjq : j < q
    · exact ⟨(h.objs j hjq f' k' hjk).1, (h.objs j hjq f' k' hjk).2.snoc (by omega)⟩
    · obtain rfl : j = q := by omega
      rw [hrs] at hjk
      cases hjk
      exact ⟨hth, .last hlen r1 r2 p1 p2⟩
  refine ⟨hin.1, hin.2.turn hm (fun b _ e => e) (fun b hb e => ?_)⟩
  rcases hv with hv | hv
  · exact hv ▸ e
  · have := hv b e
    simp at this
    omega
end

/-- What the document's Objects answers. -/
def RObjRet (xs : List Int) (ds : List (List Int)) (rs : List (Int × Int)) (w : World) (e : Ending) (w' : World) : Prop :=
  ∃ v, e = .returned (.tuple #[v, .int .i64 (objE xs ds rs)]) ∧ Below w.heap.size w w' ∧
    ((objE xs ds rs ≠ 0 ∧ ∃ a c, v = .slice a 0 c) ∨ (objE xs ds rs = 0 ∧ ∃ flat, w'.ownsRow w.heap.size 53 8 v rs.length flat ∧ ∀ j, j < rs.length → ∀ (f k : Int), rs[j]? = some (f, k) → ObjIn xs ds w' (fun b => v.ownBlock = some b) flat j (thA f)))

/-- What stays. -/
structure RInv (O : Addr → Prop) (la : Option Addr) (xs : List Int) (pa : Option Addr) (rs : List (Int × Int)) (ta : Option Addr) (ds : List (List Int)) (w : World) : Prop where
  x : Reads .u64 w la xs
  d : Descs w ta ds
  o : DescsO O w ta ds
  r : Runs w pa rs
theorem RInv.below {O : Addr → Prop} {la : Option Addr} {xs : List Int} {pa : Option Addr} {rs : List (Int × Int)} {ta : Option Addr} {ds : List (List Int)} {w w' : World} (h : RInv O la xs pa rs ta ds w) (hb : Below w.heap.size w w') : RInv O la xs pa rs ta ds w' :=
  ⟨h.x.below hb, h.d.below hb, h.o.below h.d hb, h.r.below hb⟩

set_option maxRecDepth 100000 in
set_option maxHeartbeats 8000000 in
theorem rObjs_any (O : Addr → Prop) (la : Option Addr) (xs : List Int) (lc : Nat) (pa : Option Addr) (rs : List (Int × Int)) (pc : Nat) (ta : Option Addr) (ds : List (List Int)) (tc : Nat) (w : World)
    (hX : Reads .u64 w la xs) (hm : xs.length ≤ 16384) (hcap : xs.length ≤ lc) (hcm : lc ≤ 9223372036854775807) (hDs : Descs w ta ds) (hDO : DescsO O w ta ds) (hOx : xs = [] ∨ ∀ p q, la = some p → q.block = p.block → O q) (hOw : ∀ q, O q → q.block < w.heap.size) (hRs : Runs w pa rs)
    (hd : ∀ d ∈ ds, d.length ≤ 100) (hrn : rs.length ≤ 1000) (hx : ∀ v ∈ xs, 0 ≤ v ∧ v < 18446744073709551616) (hrw : ∀ p ∈ rs, -9223372036854775808 ≤ p.1 ∧ p.1 ≤ 9223372036854775807) :
    Calls Tryd.prog 21 #[.slice la xs.length lc, .slice pa rs.length pc, .slice ta ds.length tc] w (RObjRet xs ds rs w) := by
  have H0 := Lib.hid (RInv.mk hX hDs hDO hRs)
  have HF := Lib.hid (And.intro hOx (And.intro hOw (And.intro hd (And.intro hx hrw))))
  clear hX hDs hDO hRs hOx hOw hd hx hrw
  go_enter Tryd.func21, Tryd.ntmps21
  go_wp2
  have hs0 : RV xs rs ds w (.slice (some ⟨w.heap.size, 0, none⟩) 0 0) [] 0 (w.alloc (.cells #[] 53)) := ⟨World.ownsRow_lit w #[] 0 (Nat.le_refl _) (by decide) rfl, fun j hj => by omega, (Below.refl _ _).alloc (Nat.le_refl _) _⟩
  have HS0 := Lib.hid hs0
  clear hs0
  go_loopw [8, 9] (fun v i wr => ∃ (q : Nat) (flat : List Value), q ≤ rs.length ∧ i = .int .i64 q ∧ Hid (RV xs rs ds w v flat q wr)) (fun _ i _ => rs.length - (intOf i).toNat)
  case atStart => exact ⟨0, [], Nat.zero_le _, rfl, HS0⟩
  case round =>
    obtain ⟨q, flat, hq, rfl, HV⟩ := hrel
    obtain ⟨va, vc, rfl, _⟩ := owns_slice HV.out.own
    by_cases hlt : q < rs.length
    · have HI := Lib.hid (H0.out.below (HV.out.hb.mono (Nat.le_refl _)))
      obtain ⟨bp, op, f, k, rfl, hqf, hcf, hck⟩ := HI.out.r.at_ q hlt
      have hfw := HF.out.2.2.2.2 _ (List.mem_of_getElem? hqf)
      have HQF := Lib.hid hqf
      clear hqf
      obtain ⟨at_, hat⟩ : ∃ x, rAt xs f = x := ⟨_, rfl⟩
      have hato : (0 ≤ f ∧ f < xs.length ∧ IntKind.i64.wrap (f + 1) = at_) ∨ (0 ≤ f ∧ ¬ f < xs.length ∧ -1 = at_) ∨ (¬ 0 ≤ f ∧ -1 = at_) := by
        rw [← hat, rAt]
        by_cases h : 0 ≤ f
        · by_cases h2 : f < xs.length
          · exact .inl ⟨h, h2, by rw [if_pos ⟨h, h2⟩, IntKind.wrap_i64]; omega⟩
          · exact .inr (.inl ⟨h, h2, by rw [if_neg (fun e => h2 e.2)]⟩)
        · exact .inr (.inr ⟨h, by rw [if_neg (fun e => h e.1)]⟩)
      have hatw : at_ ≤ 9223372036854775807 := by
        rw [← hat, rAt]; split <;> omega
      have hONE : onE xs ds (thA f) = onE xs ds at_ ∧ (onE xs ds at_ = 0 → at_ = thA f) := by
        by_cases h : 0 ≤ f ∧ f < xs.length
        · rw [← hat, rAt_same hm h]; exact ⟨rfl, fun _ => rfl⟩
        · have e2 : onE xs ds at_ = 8 := by rw [← hat, rAt, if_neg h]; exact onE_le0 (.inl (by omega))
          exact ⟨(thA_out hfw h).trans e2.symm, fun e => by rw [e2] at e; cases e⟩
      have ho := rOne_any O la xs lc at_ ta ds tc wr HI.out.x hm hcap hcm HI.out.d HI.out.o HF.out.1 (fun q hq => Nat.lt_of_lt_of_le (HF.out.2.1 q hq) HV.out.hb.size) HF.out.2.2.1 HF.out.2.2.2.1 hatw
      obtain ⟨v1, h1⟩ : ∃ x, onI xs ds at_ at_ = x := ⟨_, rfl⟩
      obtain ⟨v2, h2⟩ : ∃ x, onA xs ds at_ = x := ⟨_, rfl⟩
      obtain ⟨v3, h3⟩ : ∃ x, onI xs ds at_ (gK (onX xs at_)) = x := ⟨_, rfl⟩
      obtain ⟨v4, h4⟩ : ∃ x, onI xs ds at_ (gT (onX xs at_)) = x := ⟨_, rfl⟩
      obtain ⟨v5, h5⟩ : ∃ x, onI xs ds at_ (gN (onX xs at_)) = x := ⟨_, rfl⟩
      obtain ⟨v6, h6⟩ : ∃ x, (onK xs ds at_).length = x := ⟨_, rfl⟩
      obtain ⟨v7, h7⟩ : ∃ x, (onV xs ds at_).length = x := ⟨_, rfl⟩
      obtain ⟨E1, h8⟩ : ∃ x, onE xs ds at_ = x := ⟨_, rfl⟩
      obtain ⟨sz, h9⟩ : ∃ x, sizeI v2 v3 v4 v5 = x := ⟨_, rfl⟩
      have HC : Hid (E1 = 0 → ∀ y1 y2 c1 c2, objCells xs ds (thA f) y1 y2 c1 c2 = [.int .i64 v1, .int .i64 0, .bool v2, .int .i64 v3, .int .i64 v4, .int .i64 v5, .slice y1 v6 c1, .slice y2 v7 c2]) := by
        show _ → _
        intro hE y1 y2 c1 c2
        rw [← hONE.2 (h8.trans hE), objCells, h1, h2, h3, h4, h5, h6, h7]
      have HA : Hid (E1 = 0 → at_ = thA f) := by show _ → _; intro hE; exact hONE.2 (h8.trans hE)
      have HT : Hid (thE xs ds f k = if E1 = 0 ∧ sz ≠ k then 11 else E1) := by
        show _ = _
        rw [thE, hONE.1, h8]
        by_cases hE : E1 = 0
        · rw [← hONE.2 (h8.trans hE), h2, h3, h4, h5, h9]
        · rw [if_neg (fun h => hE h.1), if_neg (fun h => hE h.1)]
      have HM1 : Hid (at_ = -1 → E1 = 8) := by show _ → _; rintro rfl; rw [← h8]; exact onE_le0 (.inl (by decide))
      have ho2 : Calls Tryd.prog 19 #[.slice la xs.length lc, .int .i64 at_, .slice ta ds.length tc] wr fun e w' =>
          ∃ (y1 y2 : Option Addr) (c1 c2 : Nat), e = .returned (.tuple #[.agg #[.int .i64 v1, .int .i64 0, .bool v2, .int .i64 v3, .int .i64 v4, .int .i64 v5, .slice y1 v6 c1, .slice y2 v7 c2], .int .i64 E1]) ∧ Below wr.heap.size wr w' ∧ Reads .i64 w' y1 (onK xs ds at_) ∧ Reads .u64 w' y2 (onV xs ds at_) ∧ (onK xs ds at_ = [] ∨ ∀ p, y1 = some p → p.block < w.heap.size ∨ wr.heap.size ≤ p.block) ∧ (onV xs ds at_ = [] ∨ ∀ p, y2 = some p → p.block < w.heap.size ∨ wr.heap.size ≤ p.block) := by
        refine ho.mono ?_
        rintro e w' ⟨y1, y2, c1, c2, he, hb, r1, r2, p1, p2⟩
        rw [h1, h2, h3, h4, h5, h6, h7, h8] at he
        exact ⟨y1, y2, c1, c2, he, hb, r1, r2, p1.imp_right fun h p hp => (h p hp).imp_left (HF.out.2.1 p), p2.imp_right fun h p hp => (h p hp).imp_left (HF.out.2.1 p)⟩
      have hsize : ∀ w', Calls Tryd.prog 13 #[.agg #[.bool v2, .int .i64 v3, .int .i64 v4, .int .i64 v5]] w' fun e w2 => e = .returned (.int .i64 sz) ∧ Below w'.heap.size w' w2 := by
        intro w'
        have := rSize_any v2 v3 v4 v5 w'
        rw [h9] at this
        exact this
      have HSIZE := Lib.hid hsize
      clear hat hatw ho hsize h1 h2 h3 h4 h5 h6 h7 h8 h9 hONE
      rcases hato with ⟨hf0, hf1, hf2⟩ | ⟨hf0, hf1, rfl⟩ | ⟨hf0, rfl⟩
      rotate_left
      · have hE0 : ¬ E1 = 0 := by rw [HM1.out rfl]; decide
        go_wp2_with (go_at_call 19; refine ho2.mono ?_; rintro e w1 ⟨y1, y2, c1, c2, rfl, hb1, r1, r2, p1, p2⟩)
        have hbO : Below w1.heap.size w1 (w1.alloc (.cells #[.int .i64 v1, .int .i64 0, .bool v2, .int .i64 v3, .int .i64 v4, .int .i64 v5, .slice y1 v6 c1, .slice y2 v7 c2] 53)) := (Below.refl _ _).alloc (Nat.le_refl _) _
        have hBr : Below wr.heap.size wr (w1.alloc (.cells #[.int .i64 v1, .int .i64 0, .bool v2, .int .i64 v3, .int .i64 v4, .int .i64 v5, .slice y1 v6 c1, .slice y2 v7 c2] 53)) := hb1.trans (hbO.mono hb1.size)
        have hV1 := HV.out.below hBr
        have hI1 := HI.out.below hBr
        have ck1 := (hBr.cell (cell_lt hck)).trans hck
        have H1 := Lib.hid (And.intro hV1 (And.intro (r1.below hbO) (And.intro (r2.below hbO) (And.intro p1 (And.intro p2 (heap_alloc_eq w1 (.cells #[.int .i64 v1, .int .i64 0, .bool v2, .int .i64 v3, .int .i64 v4, .int .i64 v5, .slice y1 v6 c1, .slice y2 v7 c2] 53)))))))
        clear hbO hBr hV1 hI1 hb1 r1 r2 p1 p2 ho2
        have y9 : (E1 == 0) = false := by simp [hE0]
        have y8 : (E1 != 0) = true := by simp [hE0]
        go_wp2
        go_quiet (fail)
        have HX : Hid (objE xs ds rs = E1) := by
          show _ = _
          have e1 : thE xs ds f k = E1 := by rw [HT.out]; simp [hE0]
          rw [← e1]
          exact objE_at HQF.out (by rw [e1]; exact hE0) (fun j hj f k hjk => (HV.out.objs j hj f k hjk).1)
        have hBf : Below w.heap.size w ((w1.alloc (.cells #[.int .i64 v1, .int .i64 0, .bool v2, .int .i64 v3, .int .i64 v4, .int .i64 v5, .slice y1 v6 c1, .slice y2 v7 c2] 53)).drewN nq) := H1.out.1.hb.trans ⟨rfl, rfl, rfl, Nat.le_refl _, fun _ _ => rfl⟩
        go_wp2
        refine bodyPost_ret (results_tmp2 rfl _ _ _) rfl ?_
        refine ⟨_, by rw [HX.out]; rfl, ?_⟩
        exact ⟨hBf.alloc hBf.size _, .inl ⟨by rw [HX.out]; exact hE0, _, _, rfl⟩⟩
      · have hE0 : ¬ E1 = 0 := by rw [HM1.out rfl]; decide
        go_wp2_with (go_at_call 19; refine ho2.mono ?_; rintro e w1 ⟨y1, y2, c1, c2, rfl, hb1, r1, r2, p1, p2⟩)
        have hbO : Below w1.heap.size w1 (w1.alloc (.cells #[.int .i64 v1, .int .i64 0, .bool v2, .int .i64 v3, .int .i64 v4, .int .i64 v5, .slice y1 v6 c1, .slice y2 v7 c2] 53)) := (Below.refl _ _).alloc (Nat.le_refl _) _
        have hBr : Below wr.heap.size wr (w1.alloc (.cells #[.int .i64 v1, .int .i64 0, .bool v2, .int .i64 v3, .int .i64 v4, .int .i64 v5, .slice y1 v6 c1, .slice y2 v7 c2] 53)) := hb1.trans (hbO.mono hb1.size)
        have hV1 := HV.out.below hBr
        have hI1 := HI.out.below hBr
        have ck1 := (hBr.cell (cell_lt hck)).trans hck
        have H1 := Lib.hid (And.intro hV1 (And.intro (r1.below hbO) (And.intro (r2.below hbO) (And.intro p1 (And.intro p2 (heap_alloc_eq w1 (.cells #[.int .i64 v1, .int .i64 0, .bool v2, .int .i64 v3, .int .i64 v4, .int .i64 v5, .slice y1 v6 c1, .slice y2 v7 c2] 53)))))))
        clear hbO hBr hV1 hI1 hb1 r1 r2 p1 p2 ho2
        have y9 : (E1 == 0) = false := by simp [hE0]
        have y8 : (E1 != 0) = true := by simp [hE0]
        go_wp2
        go_quiet (fail)
        have HX : Hid (objE xs ds rs = E1) := by
          show _ = _
          have e1 : thE xs ds f k = E1 := by rw [HT.out]; simp [hE0]
          rw [← e1]
          exact objE_at HQF.out (by rw [e1]; exact hE0) (fun j hj f k hjk => (HV.out.objs j hj f k hjk).1)
        have hBf : Below w.heap.size w ((w1.alloc (.cells #[.int .i64 v1, .int .i64 0, .bool v2, .int .i64 v3, .int .i64 v4, .int .i64 v5, .slice y1 v6 c1, .slice y2 v7 c2] 53)).drewN nq) := H1.out.1.hb.trans ⟨rfl, rfl, rfl, Nat.le_refl _, fun _ _ => rfl⟩
        go_wp2
        refine bodyPost_ret (results_tmp2 rfl _ _ _) rfl ?_
        refine ⟨_, by rw [HX.out]; rfl, ?_⟩
        exact ⟨hBf.alloc hBf.size _, .inl ⟨by rw [HX.out]; exact hE0, _, _, rfl⟩⟩
      · go_wp2_with (go_at_call 19; refine ho2.mono ?_; rintro e w1 ⟨y1, y2, c1, c2, rfl, hb1, r1, r2, p1, p2⟩)
        have hbO : Below w1.heap.size w1 (w1.alloc (.cells #[.int .i64 v1, .int .i64 0, .bool v2, .int .i64 v3, .int .i64 v4, .int .i64 v5, .slice y1 v6 c1, .slice y2 v7 c2] 53)) := (Below.refl _ _).alloc (Nat.le_refl _) _
        have hBr : Below wr.heap.size wr (w1.alloc (.cells #[.int .i64 v1, .int .i64 0, .bool v2, .int .i64 v3, .int .i64 v4, .int .i64 v5, .slice y1 v6 c1, .slice y2 v7 c2] 53)) := hb1.trans (hbO.mono hb1.size)
        have hV1 := HV.out.below hBr
        have hI1 := HI.out.below hBr
        have ck1 := (hBr.cell (cell_lt hck)).trans hck
        have H1 := Lib.hid (And.intro hV1 (And.intro (r1.below hbO) (And.intro (r2.below hbO) (And.intro p1 (And.intro p2 (heap_alloc_eq w1 (.cells #[.int .i64 v1, .int .i64 0, .bool v2, .int .i64 v3, .int .i64 v4, .int .i64 v5, .slice y1 v6 c1, .slice y2 v7 c2] 53)))))))
        clear hbO hBr hV1 hI1 hb1 r1 r2 p1 p2 ho2
        by_cases hE0 : E1 = 0
        · subst hE0
          have HAe := Lib.hid (HA.out rfl)
          have HCe := Lib.hid (HC.out rfl)
          have hs := HSIZE.out (w1.alloc (.cells #[.int .i64 v1, .int .i64 0, .bool v2, .int .i64 v3, .int .i64 v4, .int .i64 v5, .slice y1 v6 c1, .slice y2 v7 c2] 53)).drew
          have xd : (w1.alloc (.cells #[.int .i64 v1, .int .i64 0, .bool v2, .int .i64 v3, .int .i64 v4, .int .i64 v5, .slice y1 v6 c1, .slice y2 v7 c2] 53)).drew.cell? ⟨bp, op + q * 2 + 1, none⟩ = some (.int .i64 k) := ck1
          go_wp2
          go_region_with (refine hs.mono ?_; rintro e w2 ⟨rfl, hb2⟩; have x2 := (hb2.cell (cell_lt xd)).trans xd)
          all_goals
            have hbz : Below (w1.alloc (.cells #[.int .i64 v1, .int .i64 0, .bool v2, .int .i64 v3, .int .i64 v4, .int .i64 v5, .slice y1 v6 c1, .slice y2 v7 c2] 53)).heap.size (w1.alloc (.cells #[.int .i64 v1, .int .i64 0, .bool v2, .int .i64 v3, .int .i64 v4, .int .i64 v5, .slice y1 v6 c1, .slice y2 v7 c2] 53)) w2 := (below_drew _).trans hb2
            by_cases hk : sz = k
            · have y8 : (sz != k) = false := by simp [hk]
              have hz := heap_below hbz H1.out.2.2.2.2.2 (by simp)
              have z0 := heap_cell hz 0
              have z1 := heap_cell hz 1
              have z2 := heap_cell hz 2
              have z3 := heap_cell hz 3
              have z4 := heap_cell hz 4
              have z5 := heap_cell hz 5
              have z6 := heap_cell hz 6
              have z7 := heap_cell hz 7
              simp at z0 z1 z2 z3 z4 z5 z6 z7
              have hV2 := H1.out.1.below hbz
              have r1 := H1.out.2.1.below hbz
              have r2 := H1.out.2.2.1.below hbz
              have p1 := H1.out.2.2.2.1
              have p2 := H1.out.2.2.2.2.1
              rw [HAe.out] at r1 r2 p1 p2
              have P1 : onK xs ds (thA f) = [] ∨ ∀ p, y1 = some p → ¬ ((Value.slice va q vc).ownBlock = some p.block) := p1.imp_right fun h p hp hs => by
                have h1 := HV.out.own.lt _ hs
                have := h p hp
                omega
              have P2 : onV xs ds (thA f) = [] ∨ ∀ p, y2 = some p → ¬ ((Value.slice va q vc).ownBlock = some p.block) := p2.imp_right fun h p hp hs => by
                have h1 := HV.out.own.lt _ hs
                have := h p hp
                omega
              have hth : thE xs ds f k = 0 := by rw [HT.out]; simp [hk]
              have H2 := Lib.hid (And.intro hV2 (And.intro r1 (And.intro r2 (And.intro P1 (And.intro P2 hth)))))
              have hbw := hV2.hb.size
              clear hz hV2 r1 r2 p1 p2 P1 P2 hth hbz hb2 xd hs x2 ck1
              obtain ⟨i0, zv, hi0, hz0, hz1, hz2, hz3⟩ := info_obj_ex
              go_wp2_with (at_builtin; refine Hid.out ?_)
              refine Lib.hid ?_
              refine wpList_append_keep _ rfl _ _ 45 rfl w.heap.size 53 i0 zv 8 96 Tryd.underlying45 hi0 hz0 hz2 hz3 hz1 (by decide) _ _ _ rfl (H2.out.1.own.alloc _) ⟨w2.heap.size, 0, none⟩ 1 1 [.int .i64 v1, .int .i64 0, .bool v2, .int .i64 v3, .int .i64 v4, .int .i64 v5, .slice y1 v6 c1, .slice y2 v7 c2] rfl rfl (cells_new w2 _ _) (by simp [Value.oneCell']) (by show q + 1 ≤ maxLen; simp only [maxLen]; omega) (by omega) (by simp; omega) ?_
              intro v' w3 hown' hg3 hv3
              have hs3 := Lib.hid (H2.out.1.snoc HQF.out H2.out.2.2.2.2.2 _ ((HCe.out y1 y2 c1 c2).symm ▸ hown') hg3 hv3 H2.out.2.1 H2.out.2.2.1 H2.out.2.2.2.1 H2.out.2.2.2.2.1)
              clear hown' hg3 hv3
              go_wp2
              go_roundw
              case rel => exact ⟨q + 1, _, by omega, by simp, hs3⟩
              case measure => simp [intOf]; omega
            · have y8 : (sz != k) = true := by simp [hk]
              have HX : Hid (objE xs ds rs = 11) := by
                show _ = _
                have e1 : thE xs ds f k = 11 := by rw [HT.out]; simp [hk]
                rw [← e1]
                exact objE_at HQF.out (by rw [e1]; decide) (fun j hj f k hjk => (HV.out.objs j hj f k hjk).1)
              have hBf : Below w.heap.size w w2 := H1.out.1.hb.trans (hbz.mono H1.out.1.hb.size)
              go_wp2
              refine bodyPost_ret (results_tmp2 rfl _ _ _) rfl ?_
              refine ⟨_, by rw [HX.out]; rfl, ?_⟩
              exact ⟨hBf.alloc hBf.size _, .inl ⟨by rw [HX.out]; decide, _, _, rfl⟩⟩
        · have y9 : (E1 == 0) = false := by simp [hE0]
          have y8 : (E1 != 0) = true := by simp [hE0]
          go_wp2
          go_quiet (fail)
          have HX : Hid (objE xs ds rs = E1) := by
            show _ = _
            have e1 : thE xs ds f k = E1 := by rw [HT.out]; simp [hE0]
            rw [← e1]
            exact objE_at HQF.out (by rw [e1]; exact hE0) (fun j hj f k hjk => (HV.out.objs j hj f k hjk).1)
          have hBf : Below w.heap.size w ((w1.alloc (.cells #[.int .i64 v1, .int .i64 0, .bool v2, .int .i64 v3, .int .i64 v4, .int .i64 v5, .slice y1 v6 c1, .slice y2 v7 c2] 53)).drewN nq) := H1.out.1.hb.trans ⟨rfl, rfl, rfl, Nat.le_refl _, fun _ _ => rfl⟩
          go_wp2
          refine bodyPost_ret (results_tmp2 rfl _ _ _) rfl ?_
          refine ⟨_, by rw [HX.out]; rfl, ?_⟩
          exact ⟨hBf.alloc hBf.size _, .inl ⟨by rw [HX.out]; exact hE0, _, _, rfl⟩⟩
    · obtain rfl : q = rs.length := by omega
      go_wp2
      refine bodyPost_ret (results_tmp2 rfl _ _ _) rfl ?_
      have hall : objE xs ds rs = 0 := objE_all fun j f k hj => (HV.out.objs j (List.getElem?_eq_some_iff.1 hj).1 f k hj).1
      refine ⟨_, by rw [hall]; rfl, ?_⟩
      exact ⟨HV.out.hb, .inr ⟨hall, _, HV.out.own, fun j hj f k hjk => (HV.out.objs j hj f k hjk).2⟩⟩
end Go.Proofs.YtojcdljpgginjaaDoor
