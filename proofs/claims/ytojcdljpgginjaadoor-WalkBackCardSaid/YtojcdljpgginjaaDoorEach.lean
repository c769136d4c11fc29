/-
  walk.each: what its rounds hand on.
-/
import Derived.Test.YtojcdljpgginjaaDoorRange
import Derived.Test.YtojcdljpgginjaaDoorWOne
import Derived.Sort.BigQuietIn
namespace Go.Proofs.YtojcdljpgginjaaDoor
open Go Go.RowKit Go.Shelf

attribute [local go_sem] Oper.semAt_some

/-- Things, as they are read. -/
def Runs (w : World) (a : Option Addr) (rs : List (Int × Int)) : Prop :=
  rs = [] ∨ ∃ b off, a = some ⟨b, off, none⟩ ∧ ∀ i, i < rs.length → w.cell? ⟨b, off + i * 2, none⟩ = some (.int .i64 (rs.getD i (0, 0)).1) ∧ w.cell? ⟨b, off + i * 2 + 1, none⟩ = some (.int .i64 (rs.getD i (0, 0)).2)
theorem Runs.below {w w' : World} {a : Option Addr} {rs : List (Int × Int)} (h : Runs w a rs) (hb : Below w.heap.size w w') : Runs w' a rs := by
  rcases h with h | ⟨b, off, ha, hc⟩
  · exact .inl h
  · exact .inr ⟨b, off, ha, fun i hi => ⟨(hb.cell (cell_lt (hc i hi).1)).trans (hc i hi).1, (hb.cell (cell_lt (hc i hi).2)).trans (hc i hi).2⟩⟩
theorem Runs.at_ {w : World} {a : Option Addr} {rs : List (Int × Int)} (h : Runs w a rs) (i : Nat) (hi : i < rs.length) :
    ∃ (b off : Nat) (f k : Int), a = some ⟨b, off, none⟩ ∧ rs[i]? = some (f, k) ∧ w.cell? ⟨b, off + i * 2, none⟩ = some (.int .i64 f) ∧ w.cell? ⟨b, off + i * 2 + 1, none⟩ = some (.int .i64 k) := by
  rcases h with rfl | ⟨b, off, rfl, hc⟩
  · simp at hi
  · obtain ⟨h1, h2⟩ := hc i hi
    refine ⟨b, off, (rs.getD i (0, 0)).1, (rs.getD i (0, 0)).2, rfl, ?_, h1, h2⟩
    simp [hi]

/-- Where a thing's object begins, as the walk asks; the error's number of a thing. -/
def thA (f : Int) : Int := if 0 ≤ f then wrap64 (f + 1) else f
def thE (xs : List Int) (ds : List (List Int)) (f k : Int) : Int :=
  if onE xs ds (thA f) = 0 ∧ sizeI (onA xs ds (thA f)) (onI xs ds (thA f) (gK (onX xs (thA f)))) (onI xs ds (thA f) (gT (onX xs (thA f)))) (onI xs ds (thA f) (gN (onX xs (thA f)))) ≠ k then 11 else onE xs ds (thA f)

/-- What the iterator reads between its rounds. -/
structure EInv (b g : Nat) (xs : List Int) (pa : Option Addr) (rs : List (Int × Int)) (pc : Nat) (ta : Option Addr) (ds : List (List Int)) (tc : Nat) (Bt Bm By : Nat) (w : World) : Prop where
  t : Tab w
  m : MemAt w b g xs
  d : Descs w ta ds
  r : Runs w pa rs
  ct : w.heap[Bt]? = some (.cells #[.slice pa rs.length pc] 38 (0, 0))
  cm : w.heap[Bm]? = some (.cells #[.pointer (some ⟨b, 0, none⟩)] 28 (0, 0))
  cy : w.heap[By]? = some (.cells #[.slice ta ds.length tc] 51 (0, 0))
theorem EInv.below {b g : Nat} {xs : List Int} {pa : Option Addr} {rs : List (Int × Int)} {pc : Nat} {ta : Option Addr} {ds : List (List Int)} {tc : Nat} {Bt Bm By : Nat} {w w' : World} (h : EInv b g xs pa rs pc ta ds tc Bt Bm By w) (hb : Below w.heap.size w w') : EInv b g xs pa rs pc ta ds tc Bt Bm By w' :=
  ⟨h.t.below h.t.lt hb, h.m.later hb, h.d.below hb, h.r.below hb, heap_below hb h.ct (heap_lt h.ct), heap_below hb h.cm (heap_lt h.cm), heap_below hb h.cy (heap_lt h.cy)⟩

theorem below_drew {m : Nat} (w : World) : Below m w w.drew := ⟨rfl, rfl, rfl, Nat.le_refl _, fun _ _ => rfl⟩
@[local go_sem] theorem wide_fn (f : FuncId) : Fence.wide.fn f = True := rfl

set_option maxRecDepth 100000 in
set_option maxHeartbeats 4000000 in
theorem each1_in (n : Nat) (hn : 1 ≤ n) (l b g : Nat) (xs : List Int) (pa : Option Addr) (rs : List (Int × Int)) (pc : Nat) (ta : Option Addr) (ds : List (List Int)) (tc : Nat) (Bt Bm By : Nat) (J : Nat → World → Prop) (Jx : World → Prop)
    (hd : ∀ d ∈ ds, d.length ≤ 100) (hdn : ds.length ≤ 60) (hrn : rs.length ≤ 9223372036854775807) (hx : ∀ v ∈ xs, 0 ≤ v ∧ v < 18446744073709551616) (hrw : ∀ p ∈ rs, -9223372036854775808 ≤ p.1 ∧ p.1 ≤ 9223372036854775807)
    (hY : ∀ (q : Nat) (W0 W : World) (f k : Int) (y1 y2 : Option Addr) (c1 c2 : Nat), rs[q]? = some (f, k) → J q W0 → Below W0.heap.size W0 W → EInv b g xs pa rs pc ta ds tc Bt Bm By W →
      Reads .i64 W y1 (onK xs ds (thA f)) → Reads .u64 W y2 (onV xs ds (thA f)) → (onK xs ds (thA f) = [] ∨ ∀ p, y1 = some p → W0.heap.size ≤ p.block) → (onV xs ds (thA f) = [] ∨ ∀ p, y2 = some p → W0.heap.size ≤ p.block) →
      YieldAt Fence.wide (n - 1) Tryd.prog l #[.agg #[.int .i64 (onI xs ds (thA f) (thA f)), .int .i64 0, .bool (onA xs ds (thA f)), .int .i64 (onI xs ds (thA f) (gK (onX xs (thA f)))), .int .i64 (onI xs ds (thA f) (gT (onX xs (thA f)))), .int .i64 (onI xs ds (thA f) (gN (onX xs (thA f)))), .slice y1 (onK xs ds (thA f)).length c1, .slice y2 (onV xs ds (thA f)).length c2, .int .i64 (thE xs ds f k)]] W fun e W' => (e = .returned (.bool true) ∧ J (q + 1) W' ∧ EInv b g xs pa rs pc ta ds tc Bt Bm By W') ∨ (e = .returned (.bool false) ∧ Jx W'))
    (W : World) (hE : EInv b g xs pa rs pc ta ds tc Bt Bm By W) (h0 : J 0 W) :
    CallsIn Fence.wide n Tryd.prog 42 #[.func (.yield l) #[] #[], .pointer (some ⟨Bt, 0, none⟩), .pointer (some ⟨Bm, 0, none⟩), .pointer (some ⟨By, 0, none⟩)] W fun e W' => (∃ v, e = .returned v) ∧ (J rs.length W' ∨ Jx W') := by
  have c0 := heap_cell hE.ct 0
  simp at c0
  have HE := Lib.hid hE
  have HY := Lib.hid hY
  have HD := Lib.hid (And.intro hd (And.intro hx hrw))
  clear hE hY hd hx hrw
  refine callsIn_of_wp Tryd.func42 rfl trivial ?_ rfl
  simp only [Tryd.ntmps42, List.size_toArray, List.length_cons, List.length_nil, Nat.reduceAdd, Nat.reduceSub, Array.replicate_succ, Array.replicate_zero, List.push_toArray, List.append_toArray, List.nil_append, List.cons_append]
  gi_wp2
  apply wpIn_scope
  gi_wp2
  apply wpIn_label
  gi_wp2
  gi_loopw [12] (fun i wr => ∃ q : Nat, q ≤ rs.length ∧ i = .int .i64 q ∧ Hid (J q wr) ∧ Hid (EInv b g xs pa rs pc ta ds tc Bt Bm By wr)) (fun i _ => rs.length - (intOf i).toNat)
  case atStart => exact ⟨0, Nat.zero_le _, rfl, Lib.hid h0, HE⟩
  case round =>
    obtain ⟨q, hq, rfl, HJ, HI⟩ := hrel
    by_cases hlt : q < rs.length
    · obtain ⟨bp, op, f, k, rfl, hqf, hcf, hck⟩ := HI.out.r.at_ q hlt
      have hfw := HD.out.2.2 _ (List.mem_of_getElem? hqf)
      have HQF := Lib.hid hqf
      clear hqf
      have hbR : Below wr.heap.size wr (wr.alloc (.cells #[.int .i64 f, .int .i64 k] 24)) := (Below.refl _ _).alloc (Nat.le_refl _) _
      have HIR := Lib.hid (HI.out.below hbR)
      have HBR := Lib.hid hbR
      have cm := heap_cell HIR.out.cm 0
      have cy := heap_cell HIR.out.cy 0
      simp only [List.getElem?_toArray, List.getElem?_cons_zero] at cm cy
      obtain ⟨at_, hat⟩ : ∃ x, thA f = x := ⟨_, rfl⟩
      have hato : (0 ≤ f ∧ IntKind.i64.wrap (f + 1) = at_) ∨ (¬ 0 ≤ f ∧ f = at_) := by
        by_cases h : 0 ≤ f
        · exact .inl ⟨h, by rw [← hat, thA, if_pos h]; simp [wrap64, IntKind.wrap_i64]⟩
        · exact .inr ⟨h, by rw [← hat, thA, if_neg h]⟩
      have hatw : at_ ≤ 9223372036854775807 := by
        rcases hato with ⟨h, e⟩ | ⟨h, e⟩
        · rw [← e, IntKind.wrap_i64]; omega
        · omega
      have ho := One_any b g xs at_ (ta) ds tc (wr.alloc (.cells #[.int .i64 f, .int .i64 k] 24)) HIR.out.t HIR.out.m HIR.out.d HD.out.1 (by omega) HD.out.2.1 hatw
      obtain ⟨v1, h1⟩ : ∃ x, onI xs ds at_ at_ = x := ⟨_, rfl⟩
      obtain ⟨v2, h2⟩ : ∃ x, onA xs ds at_ = x := ⟨_, rfl⟩
      obtain ⟨v3, h3⟩ : ∃ x, onI xs ds at_ (gK (onX xs at_)) = x := ⟨_, rfl⟩
      obtain ⟨v4, h4⟩ : ∃ x, onI xs ds at_ (gT (onX xs at_)) = x := ⟨_, rfl⟩
      obtain ⟨v5, h5⟩ : ∃ x, onI xs ds at_ (gN (onX xs at_)) = x := ⟨_, rfl⟩
      obtain ⟨K, h6⟩ : ∃ x, onK xs ds at_ = x := ⟨_, rfl⟩
      obtain ⟨V, h7⟩ : ∃ x, onV xs ds at_ = x := ⟨_, rfl⟩
      obtain ⟨E1, h8⟩ : ∃ x, onE xs ds at_ = x := ⟨_, rfl⟩
      obtain ⟨sz, h9⟩ : ∃ x, sizeI v2 v3 v4 v5 = x := ⟨_, rfl⟩
      have ho2 : Calls Tryd.prog 18 #[.pointer (some ⟨b, 0, none⟩), .int .i64 at_, .slice ta ds.length tc] (wr.alloc (.cells #[.int .i64 f, .int .i64 k] 24)) fun e w' =>
          ∃ (y1 y2 : Option Addr) (c1 c2 : Nat), e = .returned (.tuple #[.agg #[.int .i64 v1, .int .i64 0, .bool v2, .int .i64 v3, .int .i64 v4, .int .i64 v5, .slice y1 K.length c1, .slice y2 V.length c2], .int .i64 E1]) ∧ Below (wr.alloc (.cells #[.int .i64 f, .int .i64 k] 24)).heap.size (wr.alloc (.cells #[.int .i64 f, .int .i64 k] 24)) w' ∧ Reads .i64 w' y1 K ∧ Reads .u64 w' y2 V ∧ (K = [] ∨ ∀ p, y1 = some p → wr.heap.size ≤ p.block) ∧ (V = [] ∨ ∀ p, y2 = some p → wr.heap.size ≤ p.block) := by
        refine ho.mono ?_
        rintro e w' ⟨y1, y2, c1, c2, he, hb, r1, r2, p1, p2⟩
        rw [h1, h2, h3, h4, h5, h6, h7, h8] at he
        rw [h6] at r1 p1
        rw [h7] at r2 p2
        have hsz : (wr.alloc (.cells #[.int .i64 f, .int .i64 k] 24)).heap.size = wr.heap.size + 1 := by simp
        exact ⟨y1, y2, c1, c2, he, hb, r1, r2, p1.imp_right fun h p hp => by have := (h p hp).resolve_left id; omega, p2.imp_right fun h p hp => by have := (h p hp).resolve_left id; omega⟩
      have hYd : ∀ (Wz : World) (y1 y2 : Option Addr) (c1 c2 : Nat) (ev : Int), (if E1 = 0 ∧ sz ≠ k then 11 else E1) = ev → Below wr.heap.size wr Wz → EInv b g xs (some ⟨bp, op, none⟩) rs pc ta ds tc Bt Bm By Wz → Reads .i64 Wz y1 K → Reads .u64 Wz y2 V → (K = [] ∨ ∀ p, y1 = some p → wr.heap.size ≤ p.block) → (V = [] ∨ ∀ p, y2 = some p → wr.heap.size ≤ p.block) →
          YieldAt Fence.wide (n - 1) Tryd.prog l #[.agg #[.int .i64 v1, .int .i64 0, .bool v2, .int .i64 v3, .int .i64 v4, .int .i64 v5, .slice y1 K.length c1, .slice y2 V.length c2, .int .i64 ev]] Wz fun e W' => (e = .returned (.bool true) ∧ J (q + 1) W' ∧ EInv b g xs (some ⟨bp, op, none⟩) rs pc ta ds tc Bt Bm By W') ∨ (e = .returned (.bool false) ∧ Jx W') := by
        intro Wz y1 y2 c1 c2 ev hev hb he r1 r2 p1 p2
        have := HY.out q wr Wz f k y1 y2 c1 c2 HQF.out HJ.out hb he
        rw [hat, thE, hat, h1, h2, h3, h4, h5, h6, h7, h8, h9, hev] at this
        exact this r1 r2 p1 p2
      have HYD := Lib.hid hYd
      have hsize : ∀ w', Tab w' → Calls Tryd.prog 25 #[.agg #[.bool v2, .int .i64 v3, .int .i64 v4, .int .i64 v5]] w' fun e w2 => e = .returned (.int .i64 sz) ∧ Below w'.heap.size w' w2 := by
        intro w' ht
        have := hSize_any v2 v3 v4 v5 w' ht
        rw [h9] at this
        exact this
      have HSIZE := Lib.hid hsize
      clear hbR hat c0 hatw ho hYd hsize h1 h2 h3 h4 h5 h6 h7 h8 h9
      rcases hato with ⟨hf0, hf1⟩ | ⟨hf0, rfl⟩
      all_goals
        gi_wp2_with fail
        refine (callsIn_wide.2 ho2).mono ?_
        rintro e w1 ⟨y1, y2, c1, c2, rfl, hb1, r1, r2, p1, p2⟩
        have hbO : Below w1.heap.size w1 (w1.alloc (.cells #[.int .i64 v1, .int .i64 0, .bool v2, .int .i64 v3, .int .i64 v4, .int .i64 v5, .slice y1 K.length c1, .slice y2 V.length c2] 53)) := (Below.refl _ _).alloc (Nat.le_refl _) _
        have hB1 := HBR.out.trans (hb1.mono HBR.out.size)
        have hBO := hB1.trans (hbO.mono hB1.size)
        have hO := heap_alloc_eq w1 (.cells #[.int .i64 v1, .int .i64 0, .bool v2, .int .i64 v3, .int .i64 v4, .int .i64 v5, .slice y1 K.length c1, .slice y2 V.length c2] 53)
        have hR := heap_below hbO (heap_below hb1 (heap_alloc_eq wr (.cells #[.int .i64 f, .int .i64 k] 24)) (by simp)) (by have := hb1.size; simp at this; omega)
        have H1 := Lib.hid (And.intro hBO (And.intro ((HIR.out.below hb1).below hbO) (And.intro (r1.below hbO) (And.intro (r2.below hbO) (And.intro p1 (And.intro p2 (And.intro hO hR)))))))
        clear hb1 r1 r2 p1 p2 hbO hB1 hBO hO hR ho2 cm cy
        have x1 : (w1.alloc (.cells #[.int .i64 v1, .int .i64 0, .bool v2, .int .i64 v3, .int .i64 v4, .int .i64 v5, .slice y1 K.length c1, .slice y2 V.length c2] 53)).cell? ⟨wr.heap.size, 1, none⟩ = some (.int .i64 k) := by rw [heap_cell H1.out.2.2.2.2.2.2.2]; rfl
        by_cases hE0 : E1 = 0
        · subst hE0
          gi_wp2
          have tb : Tab ((w1.alloc (.cells #[.int .i64 v1, .int .i64 0, .bool v2, .int .i64 v3, .int .i64 v4, .int .i64 v5, .slice y1 K.length c1, .slice y2 V.length c2] 53))).drew := H1.out.2.1.t.below H1.out.2.1.t.lt ⟨rfl, rfl, rfl, Nat.le_refl _, fun _ _ => rfl⟩
          have hs := HSIZE.out _ tb
          have xd : (w1.alloc (.cells #[.int .i64 v1, .int .i64 0, .bool v2, .int .i64 v3, .int .i64 v4, .int .i64 v5, .slice y1 K.length c1, .slice y2 V.length c2] 53)).drew.cell? ⟨wr.heap.size, 1, none⟩ = some (.int .i64 k) := x1
          gi_region_with (refine (callsIn_wide.2 hs).mono ?_; rintro e w2 ⟨rfl, hb2⟩; have x2 := (hb2.cell (cell_lt xd)).trans xd)
          all_goals
            by_cases hk : sz = k
            · have y8 : (sz != k) = false := by simp [hk]
              have hbz : Below (w1.alloc (.cells #[.int .i64 v1, .int .i64 0, .bool v2, .int .i64 v3, .int .i64 v4, .int .i64 v5, .slice y1 K.length c1, .slice y2 V.length c2] 53)).heap.size (w1.alloc (.cells #[.int .i64 v1, .int .i64 0, .bool v2, .int .i64 v3, .int .i64 v4, .int .i64 v5, .slice y1 K.length c1, .slice y2 V.length c2] 53)) w2 := (below_drew _).trans hb2
              have hyd := HYD.out (w2) y1 y2 c1 c2 0 (by simp [hk]) (H1.out.1.trans (hbz.mono H1.out.1.size)) (H1.out.2.1.below hbz) (H1.out.2.2.1.below hbz) (H1.out.2.2.2.1.below hbz) H1.out.2.2.2.2.1 H1.out.2.2.2.2.2.1
              have hz := heap_below hbz H1.out.2.2.2.2.2.2.1 (by simp)
              obtain ⟨fn, tmps, assign, body, hy, hR⟩ := hyd
              have z0 := heap_cell hz 0
              have z1 := heap_cell hz 1
              have z2 := heap_cell hz 2
              have z3 := heap_cell hz 3
              have z4 := heap_cell hz 4
              have z5 := heap_cell hz 5
              have z6 := heap_cell hz 6
              have z7 := heap_cell hz 7
              simp at z0 z1 z2 z3 z4 z5 z6 z7
              clear hbz hz H1
              gi_wp2
              refine hR.mono ?_
              rintro e W3 (⟨rfl, hJ3, hI3⟩ | ⟨rfl, hJx3⟩)
              · have HJ3 := Lib.hid hJ3
                have HI3 := Lib.hid hI3
                clear hJ3 hI3 hR hy
                gi_wp2
                go_roundw
                case rel => exact ⟨q + 1, by omega, by simp, HJ3, HI3⟩
                case measure => simp [intOf]; omega
              · clear hR hy
                gi_wp2
                first | rw [Exit.noGoto_normal] | rw [Exit.noGoto_ret] | skip
                go_end0
                exact ⟨⟨_, rfl⟩, .inr hJx3⟩
            · have y8 : (sz != k) = true := by simp [hk]
              have hbz : Below (w1.alloc (.cells #[.int .i64 v1, .int .i64 0, .bool v2, .int .i64 v3, .int .i64 v4, .int .i64 v5, .slice y1 K.length c1, .slice y2 V.length c2] 53)).heap.size (w1.alloc (.cells #[.int .i64 v1, .int .i64 0, .bool v2, .int .i64 v3, .int .i64 v4, .int .i64 v5, .slice y1 K.length c1, .slice y2 V.length c2] 53)) w2 := (below_drew _).trans hb2
              have hyd := HYD.out (w2) y1 y2 c1 c2 11 (by simp [hk]) (H1.out.1.trans (hbz.mono H1.out.1.size)) (H1.out.2.1.below hbz) (H1.out.2.2.1.below hbz) (H1.out.2.2.2.1.below hbz) H1.out.2.2.2.2.1 H1.out.2.2.2.2.2.1
              have hz := heap_below hbz H1.out.2.2.2.2.2.2.1 (by simp)
              obtain ⟨fn, tmps, assign, body, hy, hR⟩ := hyd
              have z0 := heap_cell hz 0
              have z1 := heap_cell hz 1
              have z2 := heap_cell hz 2
              have z3 := heap_cell hz 3
              have z4 := heap_cell hz 4
              have z5 := heap_cell hz 5
              have z6 := heap_cell hz 6
              have z7 := heap_cell hz 7
              simp at z0 z1 z2 z3 z4 z5 z6 z7
              clear hbz hz H1
              gi_wp2
              refine hR.mono ?_
              rintro e W3 (⟨rfl, hJ3, hI3⟩ | ⟨rfl, hJx3⟩)
              · have HJ3 := Lib.hid hJ3
                have HI3 := Lib.hid hI3
                clear hJ3 hI3 hR hy
                gi_wp2
                go_roundw
                case rel => exact ⟨q + 1, by omega, by simp, HJ3, HI3⟩
                case measure => simp [intOf]; omega
              · clear hR hy
                gi_wp2
                first | rw [Exit.noGoto_normal] | rw [Exit.noGoto_ret] | skip
                go_end0
                exact ⟨⟨_, rfl⟩, .inr hJx3⟩
        · have y9 : (E1 == 0) = false := by simp [hE0]
          gi_wp2
          gi_big_quiet_th (fail)
          have hbz : Below (w1.alloc (.cells #[.int .i64 v1, .int .i64 0, .bool v2, .int .i64 v3, .int .i64 v4, .int .i64 v5, .slice y1 K.length c1, .slice y2 V.length c2] 53)).heap.size (w1.alloc (.cells #[.int .i64 v1, .int .i64 0, .bool v2, .int .i64 v3, .int .i64 v4, .int .i64 v5, .slice y1 K.length c1, .slice y2 V.length c2] 53)) ((w1.alloc (.cells #[.int .i64 v1, .int .i64 0, .bool v2, .int .i64 v3, .int .i64 v4, .int .i64 v5, .slice y1 K.length c1, .slice y2 V.length c2] 53)).drewN nq) := ⟨rfl, rfl, rfl, Nat.le_refl _, fun _ _ => rfl⟩
          have hyd := HYD.out (((w1.alloc (.cells #[.int .i64 v1, .int .i64 0, .bool v2, .int .i64 v3, .int .i64 v4, .int .i64 v5, .slice y1 K.length c1, .slice y2 V.length c2] 53)).drewN nq)) y1 y2 c1 c2 E1 (by simp [hE0]) (H1.out.1.trans (hbz.mono H1.out.1.size)) (H1.out.2.1.below hbz) (H1.out.2.2.1.below hbz) (H1.out.2.2.2.1.below hbz) H1.out.2.2.2.2.1 H1.out.2.2.2.2.2.1
          have hz := heap_below hbz H1.out.2.2.2.2.2.2.1 (by simp)
          obtain ⟨fn, tmps, assign, body, hy, hR⟩ := hyd
          have z0 := heap_cell hz 0
          have z1 := heap_cell hz 1
          have z2 := heap_cell hz 2
          have z3 := heap_cell hz 3
          have z4 := heap_cell hz 4
          have z5 := heap_cell hz 5
          have z6 := heap_cell hz 6
          have z7 := heap_cell hz 7
          simp at z0 z1 z2 z3 z4 z5 z6 z7
          clear hbz hz H1
          gi_wp2
          refine hR.mono ?_
          rintro e W3 (⟨rfl, hJ3, hI3⟩ | ⟨rfl, hJx3⟩)
          · have HJ3 := Lib.hid hJ3
            have HI3 := Lib.hid hI3
            clear hJ3 hI3 hR hy
            gi_wp2
            go_roundw
            case rel => exact ⟨q + 1, by omega, by simp, HJ3, HI3⟩
            case measure => simp [intOf]; omega
          · clear hR hy
            gi_wp2
            first | rw [Exit.noGoto_normal] | rw [Exit.noGoto_ret] | skip
            go_end0
            exact ⟨⟨_, rfl⟩, .inr hJx3⟩
    · obtain rfl : q = rs.length := by omega
      gi_wp2
      first | rw [Exit.noGoto_normal] | rw [Exit.noGoto_ret] | skip
      go_end0
      exact ⟨⟨_, rfl⟩, .inl HJ.out⟩
end Go.Proofs.YtojcdljpgginjaaDoor
