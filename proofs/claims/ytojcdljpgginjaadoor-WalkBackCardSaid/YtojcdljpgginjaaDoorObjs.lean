/-
  walk.Objects.
-/
import Derived.Test.YtojcdljpgginjaaDoorObj1
namespace Go.Proofs.YtojcdljpgginjaaDoor
open Go Go.RowKit Go.Shelf

attribute [local go_sem] Oper.semAt_some

theorem info_obj : (Tryd.prog.info? 53).map (fun i => (i.zero.map (fun z => z.cells.size), i.size, i.bytes)) = some (some 8, 8, 96) := by kernel_rfl
theorem info_obj_ex : ∃ i0 z0, Tryd.prog.info? 53 = some i0 ∧ i0.zero = some z0 ∧ z0.cells.size = 8 ∧ i0.size = 8 ∧ i0.bytes = 96 := by
  have hi := info_obj
  cases hc : Tryd.prog.info? 53 with
  | none => rw [hc] at hi; cases hi
  | some i0 =>
    rw [hc] at hi
    simp only [Option.map_some, Option.some.injEq, Prod.mk.injEq] at hi
    cases hz : i0.zero with
    | none => rw [hz] at hi; simp at hi
    | some z0 =>
      rw [hz] at hi
      simp only [Option.map_some, Option.some.injEq] at hi
      exact ⟨i0, z0, rfl, hz, hi.1, hi.2.1, hi.2.2⟩
theorem cells_new (w : World) (cs : List Value) (t : TypeId) : ∀ j u, cs[j]? = some u → (w.alloc (.cells cs.toArray t)).cell? ((⟨w.heap.size, 0, none⟩ : Addr).add j) = some u := by
  intro j u h
  rw [addr_add_none, Nat.zero_add, heap_cell (heap_alloc_eq _ _)]
  simpa using h

/-- Between the rounds of Objects. -/
structure OV (xs : List Int) (pa : Option Addr) (rs : List (Int × Int)) (pc : Nat) (ta : Option Addr) (ds : List (List Int)) (tc : Nat) (b : Nat) (w : World) (rec : Obj) (v : Value) (flat : List Value) (q : Nat) (W : World) : Prop where
  o : W.heap[w.heap.size + 1 + 1]? = some (.cells #[v] 45 (0, 0))
  own : W.ownsRow w.heap.size 53 8 v q flat
  objs : ∀ j, j < q → ∀ (f k : Int), rs[j]? = some (f, k) → thE xs ds f k = 0 ∧ ObjIn xs ds W (fun b => b ≤ w.heap.size + 6 + 1 ∨ v.ownBlock = some b) flat j (thA f)
  r6 : W.heap[w.heap.size]? = some (.cells #[.slice none 0 0] 45 (0, 0))
  r7 : W.heap[w.heap.size + 1]? = some (.cells #[.int .i64 0] 30 (0, 0))
  ct : W.heap[w.heap.size + 1 + 1 + 1 + 1]? = some (.cells #[.slice pa rs.length pc] 38 (0, 0))
  cm : W.heap[w.heap.size + 1 + 1 + 1]? = some (.cells #[.pointer (some ⟨b, 0, none⟩)] 28 (0, 0))
  cy : W.heap[w.heap.size + 1 + 1 + 1 + 1 + 1]? = some (.cells #[.slice ta ds.length tc] 51 (0, 0))
  hl : W.heap[w.heap.size + 6 + 1]? = some rec
  hD : W.heap[w.heap.size + 6]? = some (.deferred (some []))
  hb : Below w.heap.size w W

theorem heap_alloc_at {w : World} {n : Nat} {o : Obj} (h : w.heap.size = n) : (w.alloc o).heap[n]? = some o := h ▸ heap_alloc_eq w o

theorem owns_below {w w' : World} {B : Nat} {t : TypeId} {size : Nat} {v : Value} {n : Nat} {xs : List Value} (h : w.ownsRow B t size v n xs) (hb : Below w.heap.size w w') : w'.ownsRow B t size v n xs := by
  refine h.kept (grown_of_below hb none) ?_
  cases v.ownBlock with
  | none => exact .inl rfl
  | some k => exact .inr (by simp)

section
variable {xs : List Int} {pa : Option Addr} {rs : List (Int × Int)} {pc : Nat} {ta : Option Addr} {ds : List (List Int)} {tc : Nat} {b : Nat} {w : World} {rec : Obj} {v : Value} {flat : List Value} {q : Nat} {W W' : World}
theorem OV.below (h : OV xs pa rs pc ta ds tc b w rec v flat q W) (hb : Below W.heap.size W W') : OV xs pa rs pc ta ds tc b w rec v flat q W' :=
  ⟨heap_below hb h.o (heap_lt h.o), owns_below h.own hb, fun j hj f k hjk => ⟨(h.objs j hj f k hjk).1, (h.objs j hj f k hjk).2.turn (Moved.of_below hb (fun _ => False)) (fun _ _ h => h.elim) (fun _ _ h => h)⟩,
    heap_below hb h.r6 (heap_lt h.r6), heap_below hb h.r7 (heap_lt h.r7), heap_below hb h.ct (heap_lt h.ct), heap_below hb h.cm (heap_lt h.cm), heap_below hb h.cy (heap_lt h.cy), heap_below hb h.hl (heap_lt h.hl), heap_below hb h.hD (heap_lt h.hD), h.hb.trans (hb.mono h.hb.size)⟩

theorem OV.put {r : Loop} (h : OV xs pa rs pc ta ds tc b w (.loop r) v flat q W) (r' : Loop) : OV xs pa rs pc ta ds tc b w (.loop r') v flat q (W.putObj (w.heap.size + 6 + 1) (.loop r')) := by
  have hm : Moved (fun b => b = w.heap.size + 6 + 1) W (W.putObj (w.heap.size + 6 + 1) (.loop r')) := .of_grown (grownBy_putObj' W _ _) (fun k e => by cases e; rfl)
  refine ⟨hm.heap h.o (by omega), ownsRow_putObj h.own _ h.hl rfl, fun j hj f k hjk => ⟨(h.objs j hj f k hjk).1, (h.objs j hj f k hjk).2.turn hm (fun q _ e => .inl (by omega)) (fun _ _ h => h)⟩,
    hm.heap h.r6 (by omega), hm.heap h.r7 (by omega), hm.heap h.ct (by omega), hm.heap h.cm (by omega), hm.heap h.cy (by omega), World.putObj_heap_same (heap_lt h.hl), hm.heap h.hD (by omega), hm.below h.hb h.hb.size (fun q e => by omega)⟩

theorem owns_ne {w : World} {B : Nat} {e : TypeId} {size : Nat} {v : Value} {n : Nat} {xs : List Value} (h : w.ownsRow B e size v n xs) {i : Nat} {o : Obj} (hi : w.heap[i]? = some o) (hne : ∀ cur fr, o ≠ .cells cur e fr) : v.ownBlock ≠ some i := by
  intro e
  rcases h.2 with ⟨rfl, _⟩ | ⟨g, cap, cur, rfl, _, hgb, _⟩
  · simp [Value.ownBlock] at e
  · obtain rfl : g = i := by simpa [Value.ownBlock] using e
    rw [hgb] at hi
    exact hne _ _ (Option.some.inj hi).symm

theorem OV.fin (h : OV xs pa rs pc ta ds tc b w rec v flat q W) (hm : Moved (fun b => b = w.heap.size ∨ b = w.heap.size + 1 ∨ b = w.heap.size + 6) W W') :
    Below w.heap.size w W' ∧ W'.ownsRow w.heap.size 53 8 v q flat ∧ ∀ j, j < q → ∀ (f k : Int), rs[j]? = some (f, k) → thE xs ds f k = 0 ∧ ObjIn xs ds W' (fun b => v.ownBlock = some b) flat j (thA f) := by
  refine ⟨hm.below h.hb h.hb.size (fun q e => by omega), hm.owns h.own (fun k hk => ?_), fun j hj f k hjk => ⟨(h.objs j hj f k hjk).1, (h.objs j hj f k hjk).2.turn hm (fun b _ e => .inl (by omega)) (fun b _ e => .inr e)⟩⟩
  rintro (e | e | e)
  · subst e; exact owns_ne h.own h.r6 (by simp) hk
  · subst e; exact owns_ne h.own h.r7 (by simp) hk
  · subst e; exact owns_ne h.own h.hD (by simp) hk

theorem OV.snoc {r : Loop} (h : OV xs pa rs pc ta ds tc b w (.loop r) v flat q W) {f k : Int} (hrs : rs[q]? = some (f, k)) (hth : thE xs ds f k = 0) (tmp : Obj) {y1 y2 : Option Addr} {c1 c2 : Nat} {v' : Value}
    (ho : W'.ownsRow w.heap.size 53 8 v' (q + 1) (flat ++ objCells xs ds (thA f) y1 y2 c1 c2)) (hg : (W.alloc tmp).grownBy W' v.ownBlock) (hv : v'.ownBlock = v.ownBlock ∨ ∀ k, v'.ownBlock = some k → (W.alloc tmp).heap.size ≤ k)
    (r1 : Reads .i64 W y1 (onK xs ds (thA f))) (r2 : Reads .u64 W y2 (onV xs ds (thA f)))
    (p1 : onK xs ds (thA f) = [] ∨ ∀ p, y1 = some p → ¬ (p.block ≤ w.heap.size + 6 + 1 ∨ v.ownBlock = some p.block)) (p2 : onV xs ds (thA f) = [] ∨ ∀ p, y2 = some p → ¬ (p.block ≤ w.heap.size + 6 + 1 ∨ v.ownBlock = some p.block)) :
    OV xs pa rs pc ta ds tc b w (.loop r) v' (flat ++ objCells xs ds (thA f) y1 y2 c1 c2) (q + 1) (W'.setCell ⟨w.heap.size + 1 + 1, 0, none⟩ v') := by
  have hown : ∀ {i : Nat} {o : Obj}, W.heap[i]? = some o → (∀ cur fr, o ≠ .cells cur 53 fr) → v.ownBlock ≠ some i := by
    intro i o hi hne e
    rcases h.own.2 with ⟨rfl, _⟩ | ⟨g, cap, cur, rfl, _, hgb, _⟩
    · simp [Value.ownBlock] at e
    · obtain rfl : g = i := by simpa [Value.ownBlock] using e
      rw [hgb] at hi
      exact hne _ _ (Option.some.inj hi).symm
  have hm : Moved (fun b => b = w.heap.size + 1 + 1 ∨ v.ownBlock = some b) W (W'.setCell ⟨w.heap.size + 1 + 1, 0, none⟩ v') :=
    ((Moved.alloc _ W tmp).trans (.of_grown hg (fun k e => .inr e)) (fun q e => .inl e)).trans (.of_set W' _ 0 v' (.inl rfl)) (fun q e => .inl e)
  have hm1 : Moved (fun b => v.ownBlock = some b) W W' := (Moved.alloc _ W tmp).trans (.of_grown hg (fun k e => e)) (fun q e => .inl e)
  have ho1 : W'.heap[w.heap.size + 1 + 1]? = some (.cells #[v] 45 (0, 0)) := hm1.heap h.o (hown h.o (by simp))
  have hlen : flat.length = q * 8 := h.own.1
  refine ⟨Boxed.set (t := 45) v' ho1, ho.kept (grownBy_setCell' W' _ v') (.inr (fun e => Boxed.not_row (t := 45) (e := 53) ho1 (by decide) ho e.symm)), ?_,
    hm.heap h.r6 (not_or.2 ⟨by omega, hown h.r6 (by simp)⟩), hm.heap h.r7 (not_or.2 ⟨by omega, hown h.r7 (by simp)⟩), hm.heap h.ct (not_or.2 ⟨by omega, hown h.ct (by simp)⟩), hm.heap h.cm (not_or.2 ⟨by omega, hown h.cm (by simp)⟩), hm.heap h.cy (not_or.2 ⟨by omega, hown h.cy (by simp)⟩), ?_, hm.heap h.hD (not_or.2 ⟨by omega, hown h.hD (by simp)⟩), hm.below h.hb h.hb.size ?_⟩
  · intro j hj f' k' hjk
    have hin : thE xs ds f' k' = 0 ∧ ObjIn xs ds W (fun b => b ≤ w.heap.size + 6 + 1 ∨ v.ownBlock = some b) (flat ++ objCells xs ds (thA f) y1 y2 c1 c2) j (thA f') := by
      by_cases hjq : j < q
      · exact ⟨(h.objs j hjq f' k' hjk).1, (h.objs j hjq f' k' hjk).2.snoc (by omega)⟩
      · obtain rfl : j = q := by omega
        rw [hrs] at hjk
        cases hjk
        exact ⟨hth, .last hlen r1 r2 p1 p2⟩
    refine ⟨hin.1, hin.2.turn hm (fun b _ e => e.imp_left (fun e => by omega)) (fun b hb e => ?_)⟩
    rcases e with e | e
    · exact .inl e
    · rcases hv with hv | hv
      · exact .inr (hv ▸ e)
      · have := hv b e
        simp at this
        omega
  · exact hm.heap h.hl (not_or.2 ⟨by omega, hown h.hl (by simp)⟩)
  · rintro b (e | e)
    · omega
    · exact (h.own.lt b e).1
end
/-- What Objects answers. -/
def ObjRet (xs : List Int) (ds : List (List Int)) (rs : List (Int × Int)) (w : World) (e : Ending) (w' : World) : Prop :=
  ∃ v, e = .returned (.tuple #[v, .int .i64 (objE xs ds rs)]) ∧ Below w.heap.size w w' ∧
    ((objE xs ds rs ≠ 0 ∧ v = .slice none 0 0) ∨ (objE xs ds rs = 0 ∧ ∃ flat, w'.ownsRow w.heap.size 53 8 v rs.length flat ∧ ∀ j, j < rs.length → ∀ (f k : Int), rs[j]? = some (f, k) → ObjIn xs ds w' (fun b => v.ownBlock = some b) flat j (thA f)))

set_option maxRecDepth 100000 in
set_option maxHeartbeats 1600000 in
theorem objs_in (b g : Nat) (xs : List Int) (pa : Option Addr) (rs : List (Int × Int)) (pc : Nat) (ta : Option Addr) (ds : List (List Int)) (tc : Nat) (w : World)
    (hT : Tab w) (hM : MemAt w b g xs) (hDs : Descs w ta ds) (hRs : Runs w pa rs)
    (hd : ∀ d ∈ ds, d.length ≤ 100) (hdn : ds.length ≤ 60) (hrn : rs.length ≤ 1000) (hx : ∀ v ∈ xs, 0 ≤ v ∧ v < 18446744073709551616) (hrw : ∀ p ∈ rs, -9223372036854775808 ≤ p.1 ∧ p.1 ≤ 9223372036854775807) :
    CallsIn Fence.wide 3 Tryd.prog 16 #[.pointer (some ⟨b, 0, none⟩), .slice pa rs.length pc, .slice ta ds.length tc] w (ObjRet xs ds rs w) := by
  have h0 := Lib.hid (And.intro hT (And.intro hM (And.intro hDs (And.intro hRs (And.intro hd (And.intro hx hrw))))))
  have hE : ∀ W v flat q rec, OV xs pa rs pc ta ds tc b w rec v flat q W → EInv b g xs pa rs pc ta ds tc (w.heap.size + 1 + 1 + 1 + 1) (w.heap.size + 1 + 1 + 1) (w.heap.size + 1 + 1 + 1 + 1 + 1) W := fun W v flat q rec h =>
    ⟨hT.below hT.lt h.hb, hM.later h.hb, hDs.below h.hb, hRs.below h.hb, h.ct, h.cm, h.cy⟩
  have HE := Lib.hid hE
  clear hT hM hDs hRs hd hx hrw hE
  refine callsIn_of_wp_marks Tryd.func16 rfl trivial ?_ rfl
  simp only [Tryd.ntmps16, List.size_toArray, List.length_cons, List.length_nil, Nat.reduceAdd, Nat.reduceSub, Array.replicate_succ, Array.replicate_zero, List.push_toArray, List.append_toArray, List.nil_append, List.cons_append]
  gi_wp2_with (refine ⟨trivial, ?_⟩; gi_at_call 32; refine (each_in _ _ _ _ _ _ _ _ _).mono ?_; rintro e w2 ⟨rfl, rfl⟩)
  obtain ⟨wl, hwl⟩ : ∃ x, ((((((w.alloc (.cells #[.slice none 0 0] 45)).alloc (.cells #[.int .i64 0] 30)).alloc (.cells #[.slice none 0 0] 45)).alloc (.cells #[.pointer (some ⟨b, 0, none⟩)] 28)).alloc (.cells #[.slice pa rs.length pc] 38)).alloc (.cells #[.slice ta ds.length tc] 51)) = x := ⟨_, rfl⟩
  have hsz : wl.heap.size = w.heap.size + 6 := by rw [← hwl]; simp
  have hbl : Below w.heap.size w wl := by
    rw [← hwl]
    exact ((((((Below.refl _ _).alloc (Nat.le_refl _) _).alloc (by simp) _).alloc (by simp; omega) _).alloc (by simp; omega) _).alloc (by simp; omega) _).alloc (by simp; omega) _
  have HI : ∀ rec : Obj, OV xs pa rs pc ta ds tc b w rec (.slice none 0 0) [] 0 ((wl.alloc (.deferred (some []))).alloc rec) := by
    intro rec
    have hl2 : ((wl.alloc (.deferred (some []))).alloc rec).heap[w.heap.size + 6 + 1]? = some rec := by
      have := heap_alloc_eq (wl.alloc (.deferred (some []))) rec
      simpa [hsz] using this
    have hD2 : ((wl.alloc (.deferred (some []))).alloc rec).heap[w.heap.size + 6]? = some (.deferred (some [])) := by
      have := heap_alloc_lt (heap_alloc_eq wl (.deferred (some []))) rec
      simpa [hsz] using this
    have hbb : Below w.heap.size w ((wl.alloc (.deferred (some []))).alloc rec) := (hbl.alloc (by omega) _).alloc (by simp; omega) _
    refine ⟨?_, World.ownsRow_nil _ _ _ _, fun j hj => by omega, ?_, ?_, ?_, ?_, ?_, hl2, hD2, hbb⟩
    all_goals
      refine heap_alloc_lt (heap_alloc_lt ?_ _) _
      rw [← hwl]
    · exact heap_alloc_lt (heap_alloc_lt (heap_alloc_lt (heap_alloc_at (by simp)) _) _) _
    · exact heap_alloc_lt (heap_alloc_lt (heap_alloc_lt (heap_alloc_lt (heap_alloc_lt (heap_alloc_at (by simp)) _) _) _) _) _
    · exact heap_alloc_lt (heap_alloc_lt (heap_alloc_lt (heap_alloc_lt (heap_alloc_at (by simp)) _) _) _) _
    · exact heap_alloc_lt (heap_alloc_at (by simp)) _
    · exact heap_alloc_lt (heap_alloc_lt (heap_alloc_at (by simp)) _) _
    · exact heap_alloc_at (by simp)
  have HI0 := Lib.hid HI
  rw [hwl]
  clear hwl hbl HI
  refine wpIn_range_own rfl (by omega) (gf := 42) (lb := #[.pointer (some ⟨w.heap.size + 1 + 1 + 1 + 1, 0, none⟩), .pointer (some ⟨w.heap.size + 1 + 1 + 1, 0, none⟩), .pointer (some ⟨w.heap.size + 1 + 1 + 1 + 1 + 1, 0, none⟩)]) rfl trivial (enters_of Tryd.func42 (by kernel_rfl) rfl) ?_
  intro fn hfn R hR
  dsimp only at hR
  have HR := Lib.hid hR
  clear hR
  rw [hsz]
  simp only [List.append_toArray, List.cons_append, List.nil_append]
  have HK := Lib.hid h0
  refine (each1_in 2 (by omega) (w.heap.size + 6 + 1) b g xs pa rs pc ta ds tc (w.heap.size + 1 + 1 + 1 + 1) (w.heap.size + 1 + 1 + 1) (w.heap.size + 1 + 1 + 1 + 1 + 1) (fun q W => ∃ v flat, OV xs pa rs pc ta ds tc b w (.loop (R .ready none)) v flat q W)
    (fun W => ∃ r7 : Int, r7 = objE xs ds rs ∧ r7 ≠ 0 ∧ W.heap[w.heap.size]? = some (.cells #[.slice none 0 0] 45 (0, 0)) ∧ W.heap[w.heap.size + 1]? = some (.cells #[.int .i64 r7] 30 (0, 0)) ∧ W.heap[w.heap.size + 6 + 1]? = some (.loop (R .done (some .ret))) ∧ W.heap[w.heap.size + 6]? = some (.deferred (some [])) ∧ Below w.heap.size w W)
    h0.out.2.2.2.2.1 hdn (by omega) h0.out.2.2.2.2.2.1 h0.out.2.2.2.2.2.2 ?hY _ (HE.out _ _ _ _ _ (HI0.out _)) ⟨_, _, HI0.out _⟩).mono ?fin
  case hY =>
    rintro q W0 W f k y1 y2 c1 c2 hq ⟨v, flat, hV⟩ hbW - r1 r2 p1 p2
    have hW := hV.below hbW
    have hsz0 : w.heap.size + 6 + 1 < W0.heap.size := heap_lt hV.hl
    obtain ⟨v1, h1⟩ : ∃ x, onI xs ds (thA f) (thA f) = x := ⟨_, rfl⟩
    obtain ⟨v2, h2⟩ : ∃ x, onA xs ds (thA f) = x := ⟨_, rfl⟩
    obtain ⟨v3, h3⟩ : ∃ x, onI xs ds (thA f) (gK (onX xs (thA f))) = x := ⟨_, rfl⟩
    obtain ⟨v4, h4⟩ : ∃ x, onI xs ds (thA f) (gT (onX xs (thA f))) = x := ⟨_, rfl⟩
    obtain ⟨v5, h5⟩ : ∃ x, onI xs ds (thA f) (gN (onX xs (thA f))) = x := ⟨_, rfl⟩
    obtain ⟨v6, h6⟩ : ∃ x, (onK xs ds (thA f)).length = x := ⟨_, rfl⟩
    obtain ⟨v7, h7⟩ : ∃ x, (onV xs ds (thA f)).length = x := ⟨_, rfl⟩
    obtain ⟨E1, h8⟩ : ∃ x, thE xs ds f k = x := ⟨_, rfl⟩
    rw [h1, h2, h3, h4, h5, h6, h7, h8]
    have HC : Hid (objCells xs ds (thA f) y1 y2 c1 c2 = [.int .i64 v1, .int .i64 0, .bool v2, .int .i64 v3, .int .i64 v4, .int .i64 v5, .slice y1 v6 c1, .slice y2 v7 c2]) := by
      show _ = _
      rw [objCells, h1, h2, h3, h4, h5, h6, h7]
    have H8 := Lib.hid h8
    clear h1 h2 h3 h4 h5 h6 h7 h8
    obtain ⟨va, vc, rfl, _⟩ := owns_slice hW.own
    have hvb : ∀ k, (Value.slice va q vc).ownBlock = some k → k < W0.heap.size := fun k hk => (hV.own.lt k hk).2
    have P1 : onK xs ds (thA f) = [] ∨ ∀ p, y1 = some p → ¬ (p.block ≤ w.heap.size + 6 + 1 ∨ (Value.slice va q vc).ownBlock = some p.block) :=
      p1.imp_right fun h p hp hs => by
        have h1 := h p hp
        rcases hs with hs | hs
        · omega
        · have := hvb _ hs; omega
    have P2 : onV xs ds (thA f) = [] ∨ ∀ p, y2 = some p → ¬ (p.block ≤ w.heap.size + 6 + 1 ∨ (Value.slice va q vc).ownBlock = some p.block) :=
      p2.imp_right fun h p hp hs => by
        have h1 := h p hp
        rcases hs with hs | hs
        · omega
        · have := hvb _ hs; omega
    have hqn : q < rs.length := (List.getElem?_eq_some_iff.1 hq).1
    refine yield_round hfn (hW.hl.trans (congrArg some (HR.out .ready none))) rfl ?_
    have HW := Lib.hid hW
    have HQ := Lib.hid (And.intro hq (And.intro r1 (And.intro r2 (And.intro P1 P2))))
    clear hW hV hbW r1 r2 p1 p2 hq P1 P2 hvb
    gi_wp2
    refine ⟨(heap_alloc_lt HW.out.hl _).trans (congrArg some (HR.out _ _)), ?_⟩
    · rw [← HR.out .busy none]
      have hm : Moved (fun b => b = w.heap.size + 6 + 1) W ((W.alloc (.cells #[.int .i64 v1, .int .i64 0, .bool v2, .int .i64 v3, .int .i64 v4, .int .i64 v5, .slice y1 v6 c1, .slice y2 v7 c2, .int .i64 E1] 83)).putObj (w.heap.size + 6 + 1) (.loop (R .busy none))) := (Moved.alloc _ W _).trans (.of_grown (grownBy_putObj' _ _ _) (fun k e => by cases e; rfl)) (fun q e => .inl e)
      have h2 := (HW.out.below ((Below.refl _ _).alloc (Nat.le_refl _) (.cells #[.int .i64 v1, .int .i64 0, .bool v2, .int .i64 v3, .int .i64 v4, .int .i64 v5, .slice y1 v6 c1, .slice y2 v7 c2, .int .i64 E1] 83))).put (R .busy none)
      have hlt : w.heap.size + 6 + 1 < W.heap.size := heap_lt HW.out.hl
      have hz := (World.putObj_heap_other (o := .loop (R .busy none)) (show W.heap.size ≠ w.heap.size + 6 + 1 by omega)).trans (heap_alloc_eq W (.cells #[.int .i64 v1, .int .i64 0, .bool v2, .int .i64 v3, .int .i64 v4, .int .i64 v5, .slice y1 v6 c1, .slice y2 v7 c2, .int .i64 E1] 83))
      have r1 := reads_turn (S := fun b => b ≤ w.heap.size + 6 + 1 ∨ (Value.slice va q vc).ownBlock = some b) hm HQ.out.2.1 HQ.out.2.2.2.1 (fun b _ e => .inl (by omega))
      have r2 := reads_turn (S := fun b => b ≤ w.heap.size + 6 + 1 ∨ (Value.slice va q vc).ownBlock = some b) hm HQ.out.2.2.1 HQ.out.2.2.2.2 (fun b _ e => .inl (by omega))
      generalize ((W.alloc (.cells #[.int .i64 v1, .int .i64 0, .bool v2, .int .i64 v3, .int .i64 v4, .int .i64 v5, .slice y1 v6 c1, .slice y2 v7 c2, .int .i64 E1] 83)).putObj (w.heap.size + 6 + 1) (.loop (R .busy none))) = WB at hm h2 hz r1 r2 ⊢
      have z8 := heap_cell h2.o 0
      have z6 := heap_cell h2.r6 0
      have z7 := heap_cell h2.r7 0
      have f6 := heap_free h2.r6 0
      have f7 := heap_free h2.r7 0
      have o0 := heap_cell hz 0
      have o1 := heap_cell hz 1
      have o2 := heap_cell hz 2
      have o3 := heap_cell hz 3
      have o4 := heap_cell hz 4
      have o5 := heap_cell hz 5
      have o6 := heap_cell hz 6
      have o7 := heap_cell hz 7
      have o8 := heap_cell hz 8
      simp at o0 o1 o2 o3 o4 o5 o6 o7 o8
      simp at z8 z6 z7
      have H2 := Lib.hid (And.intro h2 (And.intro r1 r2))
      clear hm h2 hz r1 r2
      by_cases hE0 : E1 = 0
      · subst hE0
        obtain ⟨i0, z0, hi0, hz0, hz1, hz2, hz3⟩ := info_obj_ex
        have hown := H2.out.1.own
        have hWB := H2.out.1.hb.size
        gi_wp2_with (gi_at_builtin; refine Hid.out ?_)
        refine Lib.hid ?_
        refine wpListIn_append_keep _ rfl _ _ 45 rfl w.heap.size 53 i0 z0 8 96 Tryd.underlying45 hi0 hz0 hz2 hz3 hz1 (by decide) _ _ _ rfl (hown.alloc _) ⟨WB.heap.size, 0, none⟩ 1 1 [.int .i64 v1, .int .i64 0, .bool v2, .int .i64 v3, .int .i64 v4, .int .i64 v5, .slice y1 v6 c1, .slice y2 v7 c2] rfl rfl (cells_new WB _ _) (by simp [Value.oneCell']) (by show q + 1 ≤ maxLen; simp only [maxLen]; omega) (by omega) (by simp; omega) ?_
        intro v' w3 hown' hg3 hv3
        have hs3 := H2.out.1.snoc HQ.out.1 H8.out _ (HC.out.symm ▸ hown') hg3 hv3 H2.out.2.1 H2.out.2.2 HQ.out.2.2.2.1 HQ.out.2.2.2.2
        have HS := Lib.hid hs3
        clear hs3
        obtain ⟨va', vc', rfl, _⟩ := owns_slice hown'
        have ho3 : w3.heap[w.heap.size + 1 + 1]? = some (.cells #[.slice va q vc] 45 (0, 0)) := (hg3.block _ (by have := heap_lt H2.out.1.o; simp; omega) (owns_ne hown H2.out.1.o (by simp)).symm).trans (heap_alloc_lt H2.out.1.o _)
        have z9 := heap_cell ho3 0
        have f9 := heap_free ho3 0
        simp at z9
        clear hown' hg3 hv3 ho3
        gi_wp2
        refine ⟨HS.out.hl.trans (congrArg some (HR.out _ _)), .inl ⟨rfl, ?_⟩⟩
        rw [← HR.out .ready none]
        have h4 := HS.out.put (R .ready none)
        exact ⟨⟨_, _, h4⟩, HE.out _ _ _ _ _ h4⟩
      · have y9 : (E1 != 0) = true := by simp [hE0]
        have hmix : Tryd.prog.follows .mixedOrders = true := by kernel_rfl
        gi_wp2
        gi_region_o
        all_goals
          gi_wp2
          have e1 := objE_at HQ.out.1 (by rw [H8.out]; exact hE0) (fun j hj f k hjk => (HW.out.objs j hj f k hjk).1)
          have hl7 : (((WB.setCell ⟨w.heap.size, 0, none⟩ (.slice none 0 0)).setCell ⟨w.heap.size + 1, 0, none⟩ (.int .i64 E1)).drew).heap[w.heap.size + 6 + 1]? = some (.loop (R .busy none)) := (heap_set_ne (w := WB.setCell ⟨w.heap.size, 0, none⟩ (.slice none 0 0)) (by omega) _ _).trans ((heap_set_ne (by omega) _ _).trans H2.out.1.hl)
          refine ⟨hl7.trans (congrArg some (HR.out _ _)), .inr ⟨rfl, ?_⟩⟩
          rw [← HR.out .done (some .ret)]
          have hm2 : Moved (fun b => b = w.heap.size ∨ b = w.heap.size + 1 ∨ b = w.heap.size + 6 + 1) WB (((WB.setCell ⟨w.heap.size, 0, none⟩ (.slice none 0 0)).setCell ⟨w.heap.size + 1, 0, none⟩ (.int .i64 E1)).drew.putObj (w.heap.size + 6 + 1) (.loop (R .done (some .ret)))) := (((Moved.of_set WB _ 0 _ (.inl rfl)).trans (.of_set _ _ 0 _ (.inr (.inl rfl))) (fun q e => .inl e)).trans (.drew (fun b => b = w.heap.size ∨ b = w.heap.size + 1 ∨ b = w.heap.size + 6 + 1) _) (fun q e => .inl e)).trans (.of_grown (grownBy_putObj' _ _ _) (fun k e => by cases e; exact .inr (.inr rfl))) (fun q e => .inl e)
          refine ⟨E1, by rw [e1, H8.out], hE0, ?_, ?_, World.putObj_heap_same (heap_lt hl7), hm2.heap H2.out.1.hD (by omega), hm2.below H2.out.1.hb H2.out.1.hb.size (fun q e => by omega)⟩
          · exact (World.putObj_heap_other (by omega)).trans ((heap_set_ne (w := WB.setCell ⟨w.heap.size, 0, none⟩ (.slice none 0 0)) (by omega) _ _).trans (Boxed.set (t := 45) _ H2.out.1.r6))
          · exact (World.putObj_heap_other (by omega)).trans (Boxed.set (W := WB.setCell ⟨w.heap.size, 0, none⟩ (.slice none 0 0)) (t := 30) _ ((heap_set_ne (by omega) _ _).trans H2.out.1.r7))
  case fin =>
    rintro e W2 ⟨⟨v, rfl⟩, (⟨v, flat, h⟩ | ⟨r7, h1, h2, h3, h4, h5, h6, h7⟩)⟩
    · refine ⟨⟨_, rfl⟩, .inl ⟨h.hl, ?_⟩⟩
      obtain ⟨va, vc, rfl, _⟩ := owns_slice h.own
      have hP := h
      obtain ⟨ho, hown, hobjs, hr6, hr7, hct, hcm, hcy, hll, hDD, hbb⟩ := hP
      have m1 : Moved (fun b => b = w.heap.size + 6 + 1) W2 (W2.putObj (w.heap.size + 6 + 1) (.loop (R .exhausted none))) := .of_grown (grownBy_putObj' W2 _ _) (fun k e => by cases e; rfl)
      have h9 := h.put (R .exhausted none)
      have b8 := heap_cell h9.o 0
      have b6 := heap_cell h9.r6 0
      have b7 := heap_cell h9.r7 0
      have f6 := heap_free h9.r6 0
      have f7 := heap_free h9.r7 0
      simp at b8 b6 b7
      have H9 := Lib.hid h9
      generalize (W2.putObj (w.heap.size + 6 + 1) (.loop (R .exhausted none))) = W3 at b8 b6 b7 f6 f7 H9 ⊢
      clear h9 m1 h ho hown hobjs hr6 hr7 hct hcm hcy hll hDD hbb
      gi_wp2
      have hbx := (H9.out.r6)
      have hm : Moved (fun b => b = w.heap.size ∨ b = w.heap.size + 1 ∨ b = w.heap.size + 6) W3 (((W3.setCell ⟨w.heap.size, 0, none⟩ (.slice va rs.length vc)).setCell ⟨w.heap.size + 1, 0, none⟩ (.int .i64 0)).putObj (w.heap.size + 6) (.deferred none)) :=
        ((Moved.of_set W3 _ 0 _ (.inl rfl)).trans (.of_set _ _ 0 _ (.inr (.inl rfl))) (fun q e => .inl e)).trans (.of_grown (grownBy_putObj' _ _ _) (fun k e => by cases e; exact .inr (.inr rfl))) (fun q e => .inl e)
      have hK : ((W3.setCell ⟨w.heap.size, 0, none⟩ (.slice va rs.length vc)).setCell ⟨w.heap.size + 1, 0, none⟩ (.int .i64 0)).heap[w.heap.size + 6]? = some (.deferred (some [])) :=
        (heap_set_ne (by omega) _ _).trans ((heap_set_ne (by omega) _ _).trans H9.out.hD)
      have c6 : (((W3.setCell ⟨w.heap.size, 0, none⟩ (.slice va rs.length vc)).setCell ⟨w.heap.size + 1, 0, none⟩ (.int .i64 0)).putObj (w.heap.size + 6) (.deferred none)).cell? ⟨w.heap.size, 0, none⟩ = some (.slice va rs.length vc) :=
        heap_cell ((World.putObj_heap_other (by omega)).trans ((heap_set_ne (by omega) _ _).trans (Boxed.set (t := 45) _ H9.out.r6))) 0
      have c7 : (((W3.setCell ⟨w.heap.size, 0, none⟩ (.slice va rs.length vc)).setCell ⟨w.heap.size + 1, 0, none⟩ (.int .i64 0)).putObj (w.heap.size + 6) (.deferred none)).cell? ⟨w.heap.size + 1, 0, none⟩ = some (.int .i64 0) :=
        heap_cell ((World.putObj_heap_other (by omega)).trans (Boxed.set (t := 30) _ ((heap_set_ne (by omega) _ _).trans H9.out.r7))) 0
      obtain ⟨g1, g2, g3⟩ := H9.out.fin hm
      have hall : objE xs ds rs = 0 := objE_all fun j f k hj => (H9.out.objs j (List.getElem?_eq_some_iff.1 hj).1 f k hj).1
      refine ⟨by simp, .inl ⟨_, _, rfl, run_takeDeferred hK, ?_⟩⟩
      refine ⟨_, results_cells2 rfl _ _ _ ⟨w.heap.size, 0, none⟩ ⟨w.heap.size + 1, 0, none⟩ (.slice va rs.length vc) (.int .i64 0) rfl rfl (by go_simp) (by go_simp), ?_⟩
      exact ⟨_, by rw [hall], g1, .inr ⟨hall, _, g2, fun j hj f k hjk => (g3 j hj f k hjk).2⟩⟩
    · refine ⟨⟨_, rfl⟩, .inr ⟨.ret, h5, ?_⟩⟩
      gi_wp2
      have c6 : ((W2.putObj (w.heap.size + 6 + 1) (.loop (R .exhausted (some .ret)))).putObj (w.heap.size + 6) (.deferred none)).cell? ⟨w.heap.size, 0, none⟩ = some (.slice none 0 0) :=
        heap_cell ((World.putObj_heap_other (by omega)).trans ((World.putObj_heap_other (by omega)).trans h3)) 0
      have c7 : ((W2.putObj (w.heap.size + 6 + 1) (.loop (R .exhausted (some .ret)))).putObj (w.heap.size + 6) (.deferred none)).cell? ⟨w.heap.size + 1, 0, none⟩ = some (.int .i64 r7) :=
        heap_cell ((World.putObj_heap_other (by omega)).trans ((World.putObj_heap_other (by omega)).trans h4)) 0
      have hK : (W2.putObj (w.heap.size + 6 + 1) (.loop (R .exhausted (some .ret)))).heap[w.heap.size + 6]? = some (.deferred (some [])) := (World.putObj_heap_other (by omega)).trans h6
      have hm : Moved (fun b => b = w.heap.size + 6 + 1 ∨ b = w.heap.size + 6) W2 ((W2.putObj (w.heap.size + 6 + 1) (.loop (R .exhausted (some .ret)))).putObj (w.heap.size + 6) (.deferred none)) :=
        (Moved.of_grown (grownBy_putObj' _ _ _) (fun k e => by cases e; exact .inl rfl)).trans (.of_grown (grownBy_putObj' _ _ _) (fun k e => by cases e; exact .inr rfl)) (fun q e => .inl e)
      refine ⟨by simp, .inl ⟨_, _, rfl, run_takeDeferred hK, ?_⟩⟩
      refine ⟨_, results_cells2 rfl _ _ _ ⟨w.heap.size, 0, none⟩ ⟨w.heap.size + 1, 0, none⟩ (.slice none 0 0) (.int .i64 r7) rfl rfl (by go_simp) (by go_simp), ?_⟩
      exact ⟨_, by rw [← h1], hm.below h7 h7.size (fun q e => by omega), .inl ⟨by rw [← h1]; exact h2, rfl⟩⟩
end Go.Proofs.YtojcdljpgginjaaDoor
