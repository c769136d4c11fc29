/-
  Contracts of functions of the program, laid together.
-/
import Derived.Test.YtcenagpkfimkbaaGreatDoorTopNamesM1
import Derived.Test.YtcenagpkfimkbaaGreatDoorTopNamesM3
import Derived.Test.YtcenagpkfimkbaaGreatDoorTopNamesM4
import Derived.Laws.CopyOwn
import Derived.Laws.Bits64b
import Derived.Deep.RegionLaw
/-
  arena.Arena: Alloc.
-/
namespace Go.Proofs.YtcenagpkfimkbaaGreatDoor
open Go Go.RowKit

/-- One more in a row of runs. -/
theorem wpList_runs_app {W : World} {ops : Array Oper} {rest : List Oper} {o : Oper} {a : Act} {Q : Exit → Act → World → Prop} (hgd : o.guard = none) (s x : Operand)
    (ho : o.op = .call { callee := .builtin .append, args := #[s, x], argTypes := #[51, 51] }) (v : Value) (rs : List (Int × Int)) (hs : a.eval s = v) (hown : OwnRuns W v rs) (ad : Addr) (f k : Int) (hx : a.eval x = .slice (some ad) 1 1)
    (h0 : ∀ j u, [Value.int .i64 f, Value.int .i64 k][j]? = some u → W.cell? (ad.add j) = some u) (hm : rs.length ≤ 1000000)
    (h : ∀ g cap W', OwnRuns W' (.slice (some ⟨g, 0, none⟩) (rs.length + 1) cap) (rs ++ [(f, k)]) → Moved (fun q => v.ownBlock = some q) W W' → (v.ownBlock = some g ∨ W.heap.size ≤ g) → wpList Tryz.prog ops Q rest (a.put o.dst (.slice (some ⟨g, 0, none⟩) (rs.length + 1) cap)) W') : wpList Tryz.prog ops Q (o :: rest) a W := by
  obtain ⟨i0, z0, hi, hz, hzs, his, hib⟩ := info_run_ex
  refine wpList_append_lies W hgd s x 51 ho 0 160 i0 z0 2 16 Tryz.underlying51 hi hz his hib hzs (by omega) v rs.length (runCells rs) hs hown ad 1 1 [.int .i64 f, .int .i64 k] hx rfl h0 (by simp [Value.oneCell']) (by omega) (by unfold maxLen; omega) (by omega) (Nat.zero_le _) _ rfl ?_
  intro g cap W' hown' hgrow hat _
  refine h g cap W' ?_ (.of_grown hgrow (fun k e => e)) (hat.imp_right (fun e => Nat.le_of_eq e.symm))
  unfold OwnRuns
  rw [runCells_snoc, List.length_append]
  exact hown'

/-- What Alloc answers, and makes of the arena and its pages. -/
def arPage (gs : List Bool) (pg us s : Int) : Nat := (findM gs (plN pg us s)).getD 0
def arE (gs : List Bool) (pg us s : Int) : Int := if plE s ≠ 0 then 1 else if plN pg us s ≤ 0 then 0 else if (findM gs (plN pg us s)).isSome = true then 0 else 3
def arA (gs : List Bool) (pg us s : Int) : Int := if arE gs pg us s = 0 then plA pg us s (arPage gs pg us s) else 0
def arR (gs : List Bool) (pg us s : Int) (rs : List (Int × Int)) : List (Int × Int) := if arE gs pg us s = 0 ∧ 0 < plN pg us s then rs ++ [((arPage gs pg us s : Int), plN pg us s)] else rs
def arT (gs : List Bool) (pg us s : Int) (ts : List (Int × Int)) : List (Int × Int) := if arE gs pg us s = 0 then ts ++ [(arA gs pg us s, s)] else ts
def arP (gs : List Bool) (pg us s : Int) : Int := if arE gs pg us s = 0 then plP pg us s (arPage gs pg us s) else pg
def arU (gs : List Bool) (pg us s : Int) : Int := if arE gs pg us s = 0 then plU pg us s else us
def arS (gs : List Bool) (pg us s : Int) : List Bool := if arE gs pg us s = 0 then grS gs (plN pg us s) else gs
def arM (gs : List Bool) (ms : List Int) (pg us s : Int) : List Int := if arE gs pg us s = 0 then grM gs ms (plN pg us s) else ms

/-- The blocks that Alloc may turn. -/
def arB (ab plb rw mw : Nat) (vr vt : Value) : Nat → Prop := fun q => q = ab ∨ q = plb ∨ vr.ownBlock = some q ∨ vt.ownBlock = some q ∨ q = rw ∨ q = mw
/-- Where Alloc stands. -/
structure AInv (w0 : World) (ab plb pb rb rw mb mw : Nat) (vr0 vt0 : Value) (W : World) (pg us : Int) (vr vt : Value) (rs ts : List (Int × Int)) (gs : List Bool) (ms : List Int) : Prop where
  a : ArenaAt W ab plb pb pg us vr vt rs ts
  p : PagesAt W pb rb rw mb mw gs ms
  mv : Moved (arB ab plb rw mw vr0 vt0) w0 W
  r : ∀ k, vr.ownBlock = some k → vr0.ownBlock = some k ∨ w0.heap.size ≤ k
  t : ∀ k, vt.ownBlock = some k → vt0.ownBlock = some k ∨ w0.heap.size ≤ k
section
variable {w0 W W' : World} {ab plb pb rb rw mb mw : Nat} {vr0 vt0 vr vt : Value} {pg us : Int} {rs ts : List (Int × Int)} {gs : List Bool} {ms : List Int}
theorem AInv.start (ha : ArenaAt w0 ab plb pb pg us vr vt rs ts) (hp : PagesAt w0 pb rb rw mb mw gs ms) : AInv w0 ab plb pb rb rw mb mw vr vt w0 pg us vr vt rs ts gs ms :=
  ⟨ha, hp, Moved.refl _ _, fun _ e => .inl e, fun _ e => .inl e⟩
/-- The blocks of an arena are none of the pages'. -/
theorem apart_pages (ha : ArenaAt W ab plb pb pg us vr vt rs ts) (hp : PagesAt W pb rb rw mb mw gs ms) (k : Nat) (hk : k = ab ∨ k = plb ∨ vr.ownBlock = some k ∨ vt.ownBlock = some k) : k ≠ pb ∧ k ≠ rb ∧ k ≠ rw ∧ k ≠ mb ∧ k ≠ mw := by
  obtain ⟨⟨_, r1⟩, ⟨_, r2⟩⟩ := hp.row.blocks
  have key : ∀ {cs : Array Value} {t : TypeId}, W.heap[k]? = some (.cells cs t (0, 0)) → t ≠ 179 → t ≠ 231 → t ≠ 34 → t ≠ 233 → k ≠ pb ∧ k ≠ rb ∧ k ≠ rw ∧ k ≠ mb ∧ k ≠ mw := by
    intro cs t h h1 h2 h3 h4
    exact ⟨heap_ne h hp.blk (fun e => by simp only [Obj.cells.injEq] at e; exact h1 e.2.1), heap_ne h r1 (fun e => by simp only [Obj.cells.injEq] at e; exact h2 e.2.1), heap_ne h r2 (fun e => by simp only [Obj.cells.injEq] at e; exact h3 e.2.1), heap_ne h hp.mem.1 (fun e => by simp only [Obj.cells.injEq] at e; exact h4 e.2.1), heap_ne h hp.mem.2.1 (fun e => by simp only [Obj.cells.injEq] at e; exact h3 e.2.1)⟩
  rcases hk with rfl | rfl | e | e
  · exact key ha.blk (by decide) (by decide) (by decide) (by decide)
  · exact key ha.plan.1 (by decide) (by decide) (by decide) (by decide)
  · obtain ⟨_, hc⟩ := ha.runs.block e; exact key hc (by decide) (by decide) (by decide) (by decide)
  · obtain ⟨_, hc⟩ := ha.things.block e; exact key hc (by decide) (by decide) (by decide) (by decide)
theorem AInv.later (h : AInv w0 ab plb pb rb rw mb mw vr0 vt0 W pg us vr vt rs ts gs ms) (hb : Below W.heap.size W W') : AInv w0 ab plb pb rb rw mb mw vr0 vt0 W' pg us vr vt rs ts gs ms :=
  ⟨h.a.later hb, h.p.later hb, h.mv.trans (Moved.of_below hb (arB ab plb rw mw vr0 vt0)) (fun _ e => .inl e), h.r, h.t⟩
theorem AInv.grant (h : AInv w0 ab plb pb rb rw mb mw vr0 vt0 W pg us vr vt rs ts gs ms) {gs' : List Bool} {ms' : List Int} (hm : Moved (fun q => q = rw ∨ q = mw) W W') (hp : PagesAt W' pb rb rw mb mw gs' ms') : AInv w0 ab plb pb rb rw mb mw vr0 vt0 W' pg us vr vt rs ts gs' ms' := by
  have hx := apart_pages h.a h.p
  refine ⟨h.a.moved hm (fun e => ?_) (fun e => ?_) (fun k hk e => ?_) (fun k hk e => ?_), hp, h.mv.trans hm (fun q e => .inl ?_), h.r, h.t⟩
  · have := hx ab (.inl rfl); omega
  · have := hx plb (.inr (.inl rfl)); omega
  · have := hx k (.inr (.inr (.inl hk))); omega
  · have := hx k (.inr (.inr (.inr hk))); omega
  · unfold arB; rcases e with e | e <;> simp [e]
theorem AInv.place (h : AInv w0 ab plb pb rb rw mb mw vr0 vt0 W pg us vr vt rs ts gs ms) {pg' us' : Int} (hm : Moved (fun q => q = plb) W W') (hp : PlanAt W' plb pg' us') : AInv w0 ab plb pb rb rw mb mw vr0 vt0 W' pg' us' vr vt rs ts gs ms := by
  have hx := apart_pages h.a h.p plb (.inr (.inl rfl))
  have ha := h.a.apart
  refine ⟨⟨hm.heap h.a.blk ha.1, hp, h.a.runs.moved hm (fun k hk e => ha.2.2.1 (by rw [hk, e])), h.a.things.moved hm (fun k hk e => ha.2.2.2.2 (by rw [hk, e])), h.a.ne⟩, h.p.moved hm (fun e => hx.1 e.symm) (fun e => hx.2.1 e.symm) (fun e => hx.2.2.1 e.symm) (fun e => hx.2.2.2.1 e.symm) (fun e => hx.2.2.2.2 e.symm), h.mv.trans hm (fun q e => .inl (.inr (.inl e))), h.r, h.t⟩
theorem AInv.runs (h : AInv w0 ab plb pb rb rw mb mw vr0 vt0 W pg us vr vt rs ts gs ms) (o : Obj) {g n cap : Nat} {rs' : List (Int × Int)} (ho : OwnRuns W' (.slice (some ⟨g, 0, none⟩) n cap) rs') (hm : Moved (fun q => vr.ownBlock = some q) (W.alloc o) W') (hg : vr.ownBlock = some g ∨ (W.alloc o).heap.size ≤ g) :
    AInv w0 ab plb pb rb rw mb mw vr0 vt0 (W'.setCell ⟨ab, 2, none⟩ (.slice (some ⟨g, 0, none⟩) n cap)) pg us (.slice (some ⟨g, 0, none⟩) n cap) vt rs' ts gs ms := by
  have hm1 : Moved (fun q => vr.ownBlock = some q) W W' := (Moved.alloc _ W o).trans hm (fun _ e => .inl e)
  have hx := apart_pages h.a h.p
  have ha := h.a.apart
  have hblk := hm1.heap h.a.blk ha.2.1
  have hplan := h.a.plan.moved hm1 ha.2.2.1
  have hth := h.a.things.moved hm1 (fun k hk e => h.a.ne k e hk)
  have hpg := h.p.moved hm1 (fun e => (hx _ (.inr (.inr (.inl e)))).1 rfl) (fun e => (hx _ (.inr (.inr (.inl e)))).2.1 rfl) (fun e => (hx _ (.inr (.inr (.inl e)))).2.2.1 rfl) (fun e => (hx _ (.inr (.inr (.inl e)))).2.2.2.1 rfl) (fun e => (hx _ (.inr (.inr (.inl e)))).2.2.2.2 rfl)
  have hs : Moved (fun q => q = ab) W' (W'.setCell ⟨ab, 2, none⟩ (.slice (some ⟨g, 0, none⟩) n cap)) := Moved.of_set (S := fun q => q = ab) W' ab 2 _ rfl
  have hxa := hx ab (.inl rfl)
  have hgw : ∀ {k : Nat}, k < W.heap.size → vr.ownBlock ≠ some k → g ≠ k := by
    intro k hk hne e
    subst e
    rcases hg with hg | hg
    · exact hne hg
    · simp at hg; omega
  have hlt : ∀ k, vt.ownBlock = some k → k < W.heap.size := fun k hk => by obtain ⟨_, hc⟩ := h.a.things.block hk; exact heap_lt hc
  refine ⟨⟨by simpa using heap_set hblk 2 (.slice (some ⟨g, 0, none⟩) n cap), hplan.moved hs (fun e => ha.1 e.symm), ho.moved hs (fun k hk e => ?_), hth.moved hs (fun k hk e => ha.2.2.2.1 (by rw [hk, e])), fun k hk e => ?_⟩, hpg.moved hs (fun e => hxa.1 e.symm) (fun e => hxa.2.1 e.symm) (fun e => hxa.2.2.1 e.symm) (fun e => hxa.2.2.2.1 e.symm) (fun e => hxa.2.2.2.2 e.symm), (h.mv.trans hm1 (fun q e => ?_)).trans hs (fun q e => .inl (.inl e)), fun k hk => ?_, h.t⟩
  · simp [Value.ownBlock] at hk
    exact hgw (heap_lt h.a.blk) ha.2.1 (by omega)
  · simp [Value.ownBlock] at hk
    subst hk
    rcases hg with hg | hg
    · exact h.a.ne _ hg e
    · have := hlt _ e; simp at hg; omega
  · rcases h.r q e with e | e
    · exact .inl (.inr (.inr (.inl e)))
    · exact .inr e
  · simp [Value.ownBlock] at hk
    subst hk
    rcases hg with hg | hg
    · exact h.r _ hg
    · have := h.mv.size; simp at hg; exact .inr (by omega)
theorem AInv.things (h : AInv w0 ab plb pb rb rw mb mw vr0 vt0 W pg us vr vt rs ts gs ms) (o : Obj) {g n cap : Nat} {ts' : List (Int × Int)} (ho : OwnRuns W' (.slice (some ⟨g, 0, none⟩) n cap) ts') (hm : Moved (fun q => vt.ownBlock = some q) (W.alloc o) W') (hg : vt.ownBlock = some g ∨ (W.alloc o).heap.size ≤ g) :
    AInv w0 ab plb pb rb rw mb mw vr0 vt0 (W'.setCell ⟨ab, 3, none⟩ (.slice (some ⟨g, 0, none⟩) n cap)) pg us vr (.slice (some ⟨g, 0, none⟩) n cap) rs ts' gs ms := by
  have hm1 : Moved (fun q => vt.ownBlock = some q) W W' := (Moved.alloc _ W o).trans hm (fun _ e => .inl e)
  have hx := apart_pages h.a h.p
  have ha := h.a.apart
  have hblk := hm1.heap h.a.blk ha.2.2.2.1
  have hplan := h.a.plan.moved hm1 ha.2.2.2.2
  have hrn := h.a.runs.moved hm1 (fun k hk e => h.a.ne k hk e)
  have hpg := h.p.moved hm1 (fun e => (hx _ (.inr (.inr (.inr e)))).1 rfl) (fun e => (hx _ (.inr (.inr (.inr e)))).2.1 rfl) (fun e => (hx _ (.inr (.inr (.inr e)))).2.2.1 rfl) (fun e => (hx _ (.inr (.inr (.inr e)))).2.2.2.1 rfl) (fun e => (hx _ (.inr (.inr (.inr e)))).2.2.2.2 rfl)
  have hs : Moved (fun q => q = ab) W' (W'.setCell ⟨ab, 3, none⟩ (.slice (some ⟨g, 0, none⟩) n cap)) := Moved.of_set (S := fun q => q = ab) W' ab 3 _ rfl
  have hxa := hx ab (.inl rfl)
  have hgw : ∀ {k : Nat}, k < W.heap.size → vt.ownBlock ≠ some k → g ≠ k := by
    intro k hk hne e
    subst e
    rcases hg with hg | hg
    · exact hne hg
    · simp at hg; omega
  have hlt : ∀ k, vr.ownBlock = some k → k < W.heap.size := fun k hk => by obtain ⟨_, hc⟩ := h.a.runs.block hk; exact heap_lt hc
  refine ⟨⟨by simpa using heap_set hblk 3 (.slice (some ⟨g, 0, none⟩) n cap), hplan.moved hs (fun e => ha.1 e.symm), hrn.moved hs (fun k hk e => ha.2.1 (by rw [hk, e])), ho.moved hs (fun k hk e => ?_), fun k hk e => ?_⟩, hpg.moved hs (fun e => hxa.1 e.symm) (fun e => hxa.2.1 e.symm) (fun e => hxa.2.2.1 e.symm) (fun e => hxa.2.2.2.1 e.symm) (fun e => hxa.2.2.2.2 e.symm), (h.mv.trans hm1 (fun q e => ?_)).trans hs (fun q e => .inl (.inl e)), h.r, fun k hk => ?_⟩
  · simp [Value.ownBlock] at hk
    exact hgw (heap_lt h.a.blk) ha.2.2.2.1 (by omega)
  · simp [Value.ownBlock] at e
    subst e
    rcases hg with hg | hg
    · exact h.a.ne _ hk hg
    · have := hlt _ hk; simp at hg; omega
  · rcases h.t q e with e | e
    · exact .inl (.inr (.inr (.inr (.inl e))))
    · exact .inr e
  · simp [Value.ownBlock] at hk
    subst hk
    rcases hg with hg | hg
    · exact h.t _ hg
    · have := h.mv.size; simp at hg; exact .inr (by omega)
end
end Go.Proofs.YtcenagpkfimkbaaGreatDoor
/-
  arena.Arena: Alloc, walked.
-/
namespace Go.Proofs.YtcenagpkfimkbaaGreatDoor
open Go Go.RowKit

/-- What Alloc leaves. -/
def ArRet (w0 : World) (ab plb pb rb rw mb mw : Nat) (vr vt : Value) (pg us : Int) (rs ts : List (Int × Int)) (gs : List Bool) (ms : List Int) (s : Int) (e : Ending) (w' : World) : Prop :=
  e = .returned (.tuple #[.int .i64 (arA gs pg us s), .int .i64 (arE gs pg us s)]) ∧ ∃ vr' vt', AInv w0 ab plb pb rb rw mb mw vr vt w' (arP gs pg us s) (arU gs pg us s) vr' vt' (arR gs pg us s rs) (arT gs pg us s ts) (arS gs pg us s) (arM gs ms pg us s)

/-- The last part: the thing is placed. -/
theorem cells_at {w : World} {n : Nat} {cs : List Value} {t : TypeId} (h : w.heap.size = n) : ∀ j u, cs[j]? = some u → (w.alloc (.cells cs.toArray t)).cell? ((⟨n, 0, none⟩ : Addr).add j) = some u := by
  subst h
  intro j u h
  rw [addr_add_none, Nat.zero_add, heap_cell (heap_alloc_eq _ _)]
  simpa using h

theorem ar_fail {w0 w' : World} {ab plb pb rb rw mb mw : Nat} {vr vt : Value} {pg us : Int} {rs ts : List (Int × Int)} {gs : List Bool} {ms : List Int} {s E : Int} (h : arE gs pg us s = E) (hE : E ≠ 0) (hI : AInv w0 ab plb pb rb rw mb mw vr vt w' pg us vr vt rs ts gs ms) :
    ArRet w0 ab plb pb rb rw mb mw vr vt pg us rs ts gs ms s (.returned (.tuple #[.int .i64 0, .int .i64 E])) w' := by
  have e4 : arE gs pg us s ≠ 0 := by rw [h]; exact hE
  refine ⟨by rw [arA, if_neg e4, h], vr, vt, ?_⟩
  rw [arP, arU, arR, arT, arS, arM, if_neg e4, if_neg e4, if_neg (fun h => e4 h.1), if_neg e4, if_neg e4, if_neg e4]
  exact hI
theorem ar_ok {w0 w' : World} {ab plb pb rb rw mb mw : Nat} {vr vt vr' vt' : Value} {pg us : Int} {rs ts rs' : List (Int × Int)} {gs gs' : List Bool} {ms ms' : List Int} {s A : Int} {page : Nat} (h : arE gs pg us s = 0) (hp : arPage gs pg us s = page) (hA : plA pg us s page = A) (hr : (if 0 < plN pg us s then rs ++ [((page : Int), plN pg us s)] else rs) = rs') (hs : grS gs (plN pg us s) = gs') (hm : grM gs ms (plN pg us s) = ms')
    (hI : AInv w0 ab plb pb rb rw mb mw vr vt w' (plP pg us s page) (plU pg us s) vr' vt' rs' (ts ++ [(A, s)]) gs' ms') :
    ArRet w0 ab plb pb rb rw mb mw vr vt pg us rs ts gs ms s (.returned (.tuple #[.int .i64 A, .int .i64 0])) w' := by
  have hA' : arA gs pg us s = A := by rw [arA, if_pos h, hp, hA]
  refine ⟨by rw [hA', h], vr', vt', ?_⟩
  have f3 : arR gs pg us s rs = rs' := by
    rw [arR, hp, ← hr]
    by_cases hn : 0 < plN pg us s
    · rw [if_pos ⟨h, hn⟩, if_pos hn]
    · rw [if_neg (fun e => hn e.2), if_neg hn]
  rw [f3, arP, arU, arT, arS, arM, if_pos h, if_pos h, if_pos h, if_pos h, if_pos h, hA', hp, hs, hm]
  exact hI

set_option maxRecDepth 100000 in
set_option maxHeartbeats 2000000 in
theorem arAlloc_any {w : World} {ab plb pb rb rw mb mw : Nat} {vr vt : Value} {pg us : Int} {rs ts : List (Int × Int)} {gs : List Bool} {ms : List Int} (ha : ArenaAt w ab plb pb pg us vr vt rs ts) (hp : PagesAt w pb rb rw mb mw gs ms) (hN : Nw w) (hNw : ∀ k, arB ab plb rw mw vr vt k → k ≠ 0) (hg0 : -1 ≤ pg) (hg1 : pg ≤ 1024) (hr : rs.length ≤ 100000) (ht : ts.length ≤ 100000) (s : Int) :
    Calls Tryz.prog 162 #[.pointer (some ⟨ab, 0, none⟩), .int .i64 s] w (ArRet w ab plb pb rb rw mb mw vr vt pg us rs ts gs ms s) := by
  have H := Lib.hid (AInv.start ha hp)
  have c1 := heap_cell ha.blk 1
  simp at c1
  have hD := plNeed_any ha.plan hN s
  have HN := Lib.hid (And.intro hN hNw)
  obtain ⟨ra, rc, rfl, _⟩ := ha.runs.shape
  obtain ⟨ta, tc, rfl, _⟩ := ha.things.shape
  clear ha hp hN hNw
  by_cases hE : plE s ≠ 0
  · have e1 : plE s = 1 := by unfold plE at hE ⊢; split <;> simp_all
    have e2 : Hid (arE gs pg us s = 1) := Lib.hid (by rw [arE, if_pos hE])
    rw [e1] at hD
    obtain ⟨n, hn⟩ : ∃ n, plN pg us s = n := ⟨_, rfl⟩
    rw [hn] at hD
    clear hE e1 hn
    go_enter Tryz.func162, Tryz.ntmps162
    go_wp2_with fail
    refine hD.mono ?_
    rintro e w1 ⟨rfl, q, hq⟩
    have HQ := Lib.hid hq
    clear hD hq c1
    go_wp2
    go_ret2
    exact ar_fail e2.out (by decide) (H.out.later (by rw [HQ.out]; exact ⟨rfl, rfl, rfl, Nat.le_refl _, fun _ _ => rfl⟩))
  · have hE : plE s = 0 := by simpa using hE
    have hs : 1 ≤ s ∧ s ≤ 16384 := by unfold plE at hE; split at hE <;> omega
    rw [hE] at hD
    obtain ⟨n, hn⟩ : ∃ n, plN pg us s = n := ⟨_, rfl⟩
    rw [hn] at hD
    have hn0 : 0 ≤ n ∧ n ≤ 1024 := by
      rw [← hn]; unfold plN
      split
      · omega
      · split
        · omega
        · split <;> omega
    by_cases hz : n ≤ 0
    · obtain rfl : n = 0 := by omega
      have e2 : Hid (arE gs pg us s = 0) := Lib.hid (by rw [arE, if_neg (by rw [hE]; decide), if_pos (by omega)])
      have e3 : Hid (arPage gs pg us s = 0) := Lib.hid (by rw [arPage, hn, findM_neg (by omega)]; rfl)
      have e5 : Hid (grS gs (plN pg us s) = gs ∧ grM gs ms (plN pg us s) = ms ∧ (if 0 < plN pg us s then rs ++ [(((0 : Nat) : Int), plN pg us s)] else rs) = rs) := Lib.hid (by
        rw [hn, grS, grM, findM_neg (by omega)]
        exact ⟨rfl, rfl, if_neg (by omega)⟩)
      clear hE hn hn0 hz
      go_enter Tryz.func162, Tryz.ntmps162
      go_wp2_with fail
      refine hD.mono ?_
      rintro e w1 ⟨rfl, q, hq⟩
      have hb : Below w.heap.size w w1 := by rw [hq]; exact ⟨rfl, rfl, rfl, Nat.le_refl _, fun _ _ => rfl⟩
      have HI := Lib.hid (H.out.later hb)
      have hP := plPlace_any HI.out.a.plan (HN.out.1.later hb) hg0 hg1 s 0 hs.1 hs.2 (by omega) (by omega)
      obtain ⟨A, hA⟩ : ∃ A, plA pg us s 0 = A := ⟨_, rfl⟩
      rw [hA] at hP
      have HA := Lib.hid hA
      clear hD hq c1 hb hA
      have c1 := heap_cell HI.out.a.blk 1
      simp at c1
      go_wp2_with fail
      refine hP.mono ?_
      rintro e w2 ⟨rfl, hm2, hp2⟩
      have HJ := Lib.hid (HI.out.place hm2 hp2)
      have c3 := heap_cell HJ.out.a.blk 3
      simp at c3
      clear hP hm2 hp2 c1
      go_wp2_with (at_builtin; refine wpList_runs_app rfl _ _ rfl (.slice ta ts.length tc) ts rfl (HJ.out.a.things.moved (Moved.alloc (fun _ => False) w2 (.cells #[.int .i64 A, .int .i64 s] 160)) (fun _ _ => id)) ⟨w2.heap.size, 0, none⟩ A s rfl (cells_at rfl) (by omega) ?_; intro g cap w3 hown hm hg; have hb3 := hm.heap (heap_alloc_lt HJ.out.a.blk (.cells #[.int .i64 A, .int .i64 s] 160)) HJ.out.a.apart.2.2.2.1; have c4 := heap_cell hb3 3; have d4 := heap_free hb3 3; simp at c4; have HK := Lib.hid (HJ.out.things (.cells #[.int .i64 A, .int .i64 s] 160) hown hm hg); clear hown hm hg hb3 c3)
      go_ret2
      exact ar_ok e2.out e3.out HA.out e5.out.2.2 e5.out.1 e5.out.2.1 HK.out
    · have hpos : 0 < n := by omega
      have hn9 : n ≤ 1024 := hn0.2
      have hi := H.out.p.hi
      have hlo := H.out.p.lo
      cases hf : findM gs n with
      | none =>
        have e2 : Hid (arE gs pg us s = 3) := Lib.hid (by rw [arE, if_neg (by rw [hE]; decide), if_neg (by omega), hn, hf]; rfl)
        have hgE : grE gs n = 3 := by rw [grE, if_neg (by omega), hf]; rfl
        have hgS : grS gs n = gs := by rw [grS, hf]
        have hgM : grM gs ms n = ms := by rw [grM, hf]
        clear hE hn hn0 hz
        go_enter Tryz.func162, Tryz.ntmps162
        go_wp2_with fail
        refine hD.mono ?_
        rintro e w1 ⟨rfl, q, hq⟩
        have hb : Below w.heap.size w w1 := by rw [hq]; exact ⟨rfl, rfl, rfl, Nat.le_refl _, fun _ _ => rfl⟩
        have HI := Lib.hid (H.out.later hb)
        have hG := pGrant_any HI.out.p n (by omega)
        rw [hgE, hgS, hgM, hf] at hG
        simp only [Option.getD_none] at hG
        have c0 := heap_cell HI.out.a.blk 0
        simp at c0
        clear hD hq c1 hb hf hgE hgS hgM hi hlo
        go_wp2_with fail
        refine hG.mono ?_
        rintro e w2 ⟨rfl, hm2, hp2⟩
        have HJ := Lib.hid (HI.out.grant hm2 hp2)
        clear hG hm2 hp2 c0
        go_wp2
        go_ret2
        exact ar_fail e2.out (by decide) HJ.out
      | some page =>
        have hle := (findM_le hf).2
        have e2 : Hid (arE gs pg us s = 0) := Lib.hid (by rw [arE, if_neg (by rw [hE]; decide), if_neg (by omega), hn, hf]; rfl)
        have e3 : Hid (arPage gs pg us s = page) := Lib.hid (by rw [arPage, hn, hf]; rfl)
        have e5 : Hid ((if 0 < plN pg us s then rs ++ [((page : Int), plN pg us s)] else rs) = rs ++ [((page : Int), n)] ∧ plN pg us s = n) := Lib.hid (by rw [hn, if_pos hpos]; exact ⟨rfl, rfl⟩)
        have hgE : grE gs n = 0 := by rw [grE, if_neg (by omega), hf]; rfl
        have hg1' : (page : Int) ≤ 1024 := by omega
        clear hE hn hn0 hz hle hi hlo
        go_enter Tryz.func162, Tryz.ntmps162
        go_wp2_with fail
        refine hD.mono ?_
        rintro e w1 ⟨rfl, q, hq⟩
        have hb : Below w.heap.size w w1 := by rw [hq]; exact ⟨rfl, rfl, rfl, Nat.le_refl _, fun _ _ => rfl⟩
        have HI := Lib.hid (H.out.later hb)
        have hG := pGrant_any HI.out.p n (by omega)
        rw [hgE, hf] at hG
        simp only [Option.getD_some] at hG
        have hmq := Moved.of_below hb (arB ab plb rw mw (.slice ra rs.length rc) (.slice ta ts.length tc))
        have HMQ := Lib.hid hmq
        have c0 := heap_cell HI.out.a.blk 0
        simp at c0
        clear hD hq c1 hb hf hgE hmq
        go_wp2_with fail
        refine hG.mono ?_
        rintro e w2 ⟨rfl, hm2, hp2⟩
        have HJ := Lib.hid (HI.out.grant hm2 hp2)
        have c2 := heap_cell HJ.out.a.blk 2
        simp at c2
        clear hG hm2 hp2 c0
        go_wp2_with (at_builtin; refine wpList_runs_app rfl _ _ rfl (.slice ra rs.length rc) rs rfl (HJ.out.a.runs.moved (Moved.alloc (fun _ => False) w2 (.cells #[.int .i64 page, .int .i64 n] 160)) (fun _ _ => id)) ⟨w2.heap.size, 0, none⟩ page n rfl (cells_at rfl) (by omega) ?_; intro gr cr w3 hown hm hg; have hb3 := hm.heap (heap_alloc_lt HJ.out.a.blk (.cells #[.int .i64 page, .int .i64 n] 160)) HJ.out.a.apart.2.1; have c4 := heap_cell hb3 2; have d4 := heap_free hb3 2; simp at c4; have HK := Lib.hid (HJ.out.runs (.cells #[.int .i64 page, .int .i64 n] 160) hown hm hg); have hb4 := HK.out.a.blk; have c5 := heap_cell hb4 1; simp at c5; clear hown hm hg hb3 hb4 c2)
        obtain ⟨w4, hw4⟩ : ∃ x, w3.setCell ⟨ab, 2, none⟩ (.slice (some ⟨gr, 0, none⟩) (rs.length + 1) cr) = x := ⟨_, rfl⟩
        rw [hw4] at HK c5 ⊢
        have hN4 : Nw w4 := HN.out.1.moved HK.out.mv (fun e => HN.out.2 _ e rfl)
        have hP := plPlace_any HK.out.a.plan hN4 hg0 hg1 s page hs.1 hs.2 (by omega) hg1'
        obtain ⟨A, hA⟩ : ∃ A, plA pg us s page = A := ⟨_, rfl⟩
        rw [hA] at hP
        have HA := Lib.hid hA
        clear hw4 hN4 c4 d4 hA
        refine hP.mono ?_
        rintro e w5 ⟨rfl, hm5, hp5⟩
        have HL := Lib.hid (HK.out.place hm5 hp5)
        have c6 := heap_cell HL.out.a.blk 3
        simp at c6
        clear hP hm5 hp5 c5
        go_wp2_with (at_builtin; refine wpList_runs_app rfl _ _ rfl (.slice ta ts.length tc) ts rfl (HL.out.a.things.moved (Moved.alloc (fun _ => False) w5 (.cells #[.int .i64 A, .int .i64 s] 160)) (fun _ _ => id)) ⟨w5.heap.size, 0, none⟩ A s rfl (cells_at rfl) (by omega) ?_; intro g cap w6 hown hm hg; have hb6 := hm.heap (heap_alloc_lt HL.out.a.blk (.cells #[.int .i64 A, .int .i64 s] 160)) HL.out.a.apart.2.2.2.1; have c7 := heap_cell hb6 3; have d7 := heap_free hb6 3; simp at c7; have HO := Lib.hid (HL.out.things (.cells #[.int .i64 A, .int .i64 s] 160) hown hm hg); clear hown hm hg hb6 c6)
        go_ret2
        exact ar_ok e2.out e3.out HA.out e5.out.1 (by rw [e5.out.2]) (by rw [e5.out.2]) HO.out
end Go.Proofs.YtcenagpkfimkbaaGreatDoor
/-
  starts.Starts: what they are in the model; New, Put, Is.
-/
namespace Go.Proofs.YtcenagpkfimkbaaGreatDoor
open Go Go.RowKit

/-- At block sb lies a book of starts, its marks a row. -/
structure StartsAt (w : World) (sb rb rw : Nat) (st : List Bool) : Prop where
  blk : w.heap[sb]? = some (.cells #[.pointer (some ⟨rb, 0, none⟩)] 186 (0, 0))
  row : RowAt w rb rw st
section
variable {w w' : World} {sb rb rw : Nat} {st : List Bool}
theorem StartsAt.moved {T : Nat → Prop} (h : StartsAt w sb rb rw st) (hm : Moved T w w') (h1 : ¬ T sb) (h2 : ¬ T rb) (h3 : ¬ T rw) : StartsAt w' sb rb rw st := ⟨hm.heap h.blk h1, h.row.moved hm h2 h3⟩
theorem StartsAt.later (h : StartsAt w sb rb rw st) (hb : Below w.heap.size w w') : StartsAt w' sb rb rw st := h.moved (Moved.of_below hb (fun _ => False)) id id id
theorem StartsAt.apart (h : StartsAt w sb rb rw st) : sb ≠ rb ∧ sb ≠ rw ∧ rb ≠ rw := by
  obtain ⟨⟨_, r1⟩, ⟨_, r2⟩⟩ := h.row.blocks
  exact ⟨heap_ne h.blk r1 (by simp), heap_ne h.blk r2 (by simp), heap_ne r1 r2 (by simp)⟩
theorem StartsAt.len (h : StartsAt w sb rb rw st) : st.length ≤ 16384 := by obtain ⟨_, _, _, _, h⟩ := h.row; exact h
end
def StartsP (sb rb rw : Nat) (st : List Bool) : HP := fun w S => StartsAt w sb rb rw st ∧ ∀ k, S k ↔ k = sb ∨ k = rb ∨ k = rw
theorem StartsP.ok (sb rb rw : Nat) (st : List Bool) : (StartsP sb rb rw st).Ok := by
  constructor
  · rintro w w' S T ⟨h, hs⟩ hm hd
    exact ⟨h.moved hm (hd _ ((hs _).2 (by simp))) (hd _ ((hs _).2 (by simp))) (hd _ ((hs _).2 (by simp))), hs⟩
  · rintro w S ⟨h, hs⟩ k hk
    obtain ⟨⟨_, r1⟩, ⟨_, r2⟩⟩ := h.row.blocks
    rcases (hs k).1 hk with rfl | rfl | rfl
    · exact heap_lt h.blk
    · exact heap_lt r1
    · exact heap_lt r2

set_option maxRecDepth 100000 in
theorem sNew2_any (n : Nat) (w : World) (hn : n ≤ 16384) :
    Calls Tryz.prog 40 #[.int .i64 n] w fun e w' => ∃ sb rb rw, e = .returned (.pointer (some ⟨sb, 0, none⟩)) ∧ Below w.heap.size w w' ∧ StartsAt w' sb rb rw (List.replicate n false) ∧ w.heap.size ≤ sb ∧ w.heap.size ≤ rb ∧ w.heap.size ≤ rw := by
  have hb := bNew_any n w hn
  have y1 : (if (n : Int) < 0 then (0 : Int) else n) = n := by split <;> omega
  have y2 : (if (n : Int) ≤ 0 then (0 : Int) else n) = n := by split <;> omega
  have y3 : (if (16384 : Int) < n then (16384 : Int) else n) = n := by split <;> omega
  have y4 : (if (16384 : Int) ≤ n then (16384 : Int) else n) = n := by split <;> omega
  go_enter Tryz.func40, Tryz.ntmps40
  go_wp2_with fail
  refine hb.mono ?_
  rintro e w1 ⟨rfl, hb1, hr1⟩
  have HR := Lib.hid (And.intro hb1 hr1)
  clear hb hb1 hr1
  go_wp2
  go_ret
  have hb2 : Below w1.heap.size w1 (w1.alloc (.cells #[.pointer (some ⟨w.heap.size + 1, 0, none⟩)] 186)) := (Below.refl _ _).alloc (Nat.le_refl _) _
  have := HR.out.1.size
  exact ⟨_, _, _, rfl, HR.out.1.trans (hb2.mono HR.out.1.size), ⟨heap_alloc_eq _ _, HR.out.2.later hb2⟩, by omega, by omega, by omega⟩

def isM (st : List Bool) (v : Int) : Bool := hasM st v
set_option maxRecDepth 100000 in
theorem sIs_any {w : World} {sb rb rw : Nat} {st : List Bool} (h : StartsAt w sb rb rw st) (v : Int) (h0 : 0 ≤ v) (h1 : v ≤ 18446744073709551615) :
    Calls Tryz.prog 165 #[.pointer (some ⟨sb, 0, none⟩), .int .u64 v] w fun e w' => e = .returned (.bool (hasM st v)) ∧ w = w' := by
  have c0 := heap_cell h.blk 0
  simp at c0
  have hL := bLen_any rb rw st w h.row
  have hl := h.len
  have hw : IntKind.u64.wrap (st.length : Int) = st.length := by rw [IntKind.wrap_u64]; omega
  have hH := bHas_any rb rw st v w h.row
  have e1 : Hid (¬ v < st.length → hasM st v = false) := Lib.hid (fun h => by rw [hasM, if_neg (fun e => h e.2)])
  obtain ⟨n, hn⟩ : ∃ n, st.length = n := ⟨_, rfl⟩
  rw [hn] at hL hl hw e1
  clear h hn
  by_cases hv : v < (n : Int)
  · have y1 : IntKind.i64.wrap v = v := by rw [IntKind.wrap_i64]; omega
    go_enter Tryz.func165, Tryz.ntmps165
    go_wp2_with fail
    refine hL.mono ?_
    rintro e w1 ⟨rfl, rfl⟩
    clear hL
    go_wp2_with fail
    refine hH.mono ?_
    rintro e w1 ⟨rfl, rfl⟩
    clear hH
    go_wp2
    go_ret
    exact ⟨rfl, rfl⟩
  · clear hH
    go_enter Tryz.func165, Tryz.ntmps165
    go_wp2_with fail
    refine hL.mono ?_
    rintro e w1 ⟨rfl, rfl⟩
    clear hL
    go_wp2
    go_ret
    exact ⟨ret_bool (e1.out hv).symm, rfl⟩

/-- What Put answers, and makes of the marks. -/
def spE (st : List Bool) (a : Int) : Int := if a < 1 ∨ (st.length : Int) ≤ a then 8 else if hasM st a = true then 6 else 0
def spL (st : List Bool) (a : Int) : List Bool := if spE st a = 0 then st.set a.toNat true else st
theorem spL_len (st : List Bool) (a : Int) : (spL st a).length = st.length := by unfold spL; split <;> simp

set_option maxRecDepth 100000 in
set_option maxHeartbeats 1000000 in
theorem sPut2_any {w : World} {sb rb rw : Nat} {st : List Bool} (h : StartsAt w sb rb rw st) (a : Int) :
    Calls Tryz.prog 164 #[.pointer (some ⟨sb, 0, none⟩), .int .i64 a] w fun e w' => e = .returned (.int .i64 (spE st a)) ∧ Moved (fun q => q = rw) w w' ∧ StartsAt w' sb rb rw (spL st a) := by
  have H := Lib.hid h
  have c0 := heap_cell h.blk 0
  simp at c0
  have hL := bLen_any rb rw st w h.row
  have hH := bHas_any rb rw st a w h.row
  have hM := bMark_any rb rw st a 1 true w h.row
  have e8 : Hid (spE st a ≠ 0 → spL st a = st) := Lib.hid (fun h => by rw [spL, if_neg h])
  have hap := h.apart
  have HA := Lib.hid hap
  clear h hap
  by_cases h1 : a < 1
  · have e1 : Hid (spE st a = 8) := Lib.hid (by rw [spE, if_pos (.inl h1)])
    clear hL hH hM c0
    go_enter Tryz.func164, Tryz.ntmps164
    go_wp2
    go_ret
    exact ⟨by rw [e1.out]; rfl, Moved.refl _ _, by rw [e8.out (by rw [e1.out]; decide)]; exact H.out⟩
  · by_cases h2 : (st.length : Int) ≤ a
    · have e1 : Hid (spE st a = 8) := Lib.hid (by rw [spE, if_pos (.inr h2)])
      clear hH hM
      go_enter Tryz.func164, Tryz.ntmps164
      go_wp2_with fail
      refine hL.mono ?_
      rintro e w1 ⟨rfl, rfl⟩
      clear hL
      go_wp2
      go_ret
      exact ⟨by rw [e1.out]; rfl, Moved.refl _ _, by rw [e8.out (by rw [e1.out]; decide)]; exact H.out⟩
    · cases hs : hasM st a
      · have e1 : Hid (spE st a = 0) := Lib.hid (by rw [spE, if_neg (by omega), hs]; rfl)
        have hB : hasB st.length a 1 = true := by simp [hasB]; omega
        have e4 : markE st.length a 1 = 0 := by rw [markE, if_pos hB]
        have e5 : markX st a 1 true = st.set a.toNat true := by
          rw [markX, if_pos hB]
          have := markL_succ st a.toNat 0 true (by omega)
          rw [markL_zero] at this
          simpa using this.symm
        rw [e4, e5] at hM
        have e6 : Hid (spL st a = st.set a.toNat true) := Lib.hid (by rw [spL, if_pos e1.out])
        rw [hs] at hH
        clear hs hB e4 e5
        go_enter Tryz.func164, Tryz.ntmps164
        go_wp2_with fail
        refine hL.mono ?_
        rintro e w1 ⟨rfl, rfl⟩
        clear hL
        go_wp2_with fail
        refine hH.mono ?_
        rintro e w1 ⟨rfl, rfl⟩
        clear hH
        go_wp2_with fail
        refine hM.mono ?_
        rintro e w2 ⟨rfl, hm2, hr2⟩
        have HZ := Lib.hid (And.intro hm2 hr2)
        clear hM hm2 hr2
        go_wp2
        go_ret
        exact ⟨by rw [e1.out]; rfl, HZ.out.1, by rw [e6.out]; exact ⟨HZ.out.1.heap H.out.blk HA.out.2.1, HZ.out.2⟩⟩
      · have e1 : Hid (spE st a = 6) := Lib.hid (by rw [spE, if_neg (by omega), hs]; rfl)
        rw [hs] at hH
        clear hs hM
        go_enter Tryz.func164, Tryz.ntmps164
        go_wp2_with fail
        refine hL.mono ?_
        rintro e w1 ⟨rfl, rfl⟩
        clear hL
        go_wp2_with fail
        refine hH.mono ?_
        rintro e w1 ⟨rfl, rfl⟩
        clear hH
        go_wp2
        go_ret
        exact ⟨by rw [e1.out]; rfl, Moved.refl _ _, by rw [e8.out (by rw [e1.out]; decide)]; exact H.out⟩
end Go.Proofs.YtcenagpkfimkbaaGreatDoor
/-
  globals.Slots: what they are in the model; New, Get, Set, All.
-/
namespace Go.Proofs.YtcenagpkfimkbaaGreatDoor
open Go Go.RowKit

/-- At block b lie slots, their words in block g. -/
structure GlobAt (w : World) (b g : Nat) (vs : List Int) : Prop where
  blk : w.heap[b]? = some (.cells #[.slice (some ⟨g, 0, none⟩) vs.length vs.length] 167 (0, 0))
  row : w.heap[g]? = some (.cells (u64s vs) 34 (0, 0))
  len : vs.length ≤ 64
section
variable {w w' : World} {b g : Nat} {vs : List Int}
theorem GlobAt.moved {T : Nat → Prop} (h : GlobAt w b g vs) (hm : Moved T w w') (h1 : ¬ T b) (h2 : ¬ T g) : GlobAt w' b g vs := ⟨hm.heap h.blk h1, hm.heap h.row h2, h.len⟩
theorem GlobAt.later (h : GlobAt w b g vs) (hb : Below w.heap.size w w') : GlobAt w' b g vs := h.moved (Moved.of_below hb (fun _ => False)) id id
theorem GlobAt.ne (h : GlobAt w b g vs) : b ≠ g := by
  rintro rfl
  have := h.blk.symm.trans h.row
  simp at this
theorem GlobAt.reads (h : GlobAt w b g vs) : Reads .u64 w (some ⟨g, 0, none⟩) vs := by
  refine .inr ⟨g, 0, rfl, fun i hi => ?_⟩
  rw [heap_cell h.row]
  simp [hi]
end
def GlobP (b g : Nat) (vs : List Int) : HP := fun w S => GlobAt w b g vs ∧ ∀ k, S k ↔ k = b ∨ k = g
theorem GlobP.ok (b g : Nat) (vs : List Int) : (GlobP b g vs).Ok := by
  constructor
  · rintro w w' S T ⟨h, hs⟩ hm hd
    exact ⟨h.moved hm (hd _ ((hs _).2 (by simp))) (hd _ ((hs _).2 (by simp))), hs⟩
  · rintro w S ⟨h, hs⟩ k hk
    rcases (hs k).1 hk with rfl | rfl
    · exact heap_lt h.blk
    · exact heap_lt h.row

theorem gNew_any (n : Nat) (w : World) (hn : n ≤ 64) :
    Calls Tryz.prog 37 #[.int .i64 n] w fun e w' => e = .returned (.tuple #[.pointer (some ⟨w.heap.size + 1, 0, none⟩), .int .i64 0]) ∧ Below w.heap.size w w' ∧ GlobAt w' (w.heap.size + 1) w.heap.size (List.replicate n 0) := by
  have hmk := run_mk64 n (by omega)
  go_enter Tryz.func37, Tryz.ntmps37
  go_wp2
  go_ret2
  refine ⟨rfl, ((Below.refl _ _).alloc (Nat.le_refl _) _).alloc (by simp) _, ?_, ?_, by simpa using hn⟩
  · simpa using heap_alloc_eq (w.alloc (.cells (zrow n) 34)) (.cells #[.slice (some ⟨w.heap.size, 0, none⟩) n n] 167)
  · rw [← zrow_eq]
    exact heap_alloc_lt (heap_alloc_eq _ _) _
theorem gNew_bad (n : Int) (w : World) (h : n < 0 ∨ 64 < n) :
    Calls Tryz.prog 37 #[.int .i64 n] w fun e w' => e = .returned (.tuple #[.pointer none, .int .i64 1]) ∧ w = w' := by
  rcases h with h | h
  all_goals
    go_enter Tryz.func37, Tryz.ntmps37
    go_wp2
    go_ret2
    exact ⟨rfl, rfl⟩

/-- What Get answers of slot i, what Set makes of the slots. -/
def glV (vs : List Int) (i : Int) : Int := if i < vs.length then vs.getD i.toNat 0 else 0
def glE (vs : List Int) (i : Int) : Int := if i < vs.length then 0 else 8
def glS (vs : List Int) (i v : Int) : List Int := if i < vs.length then vs.set i.toNat v else vs

set_option maxRecDepth 100000 in
theorem gGet_any {w : World} {b g : Nat} {vs : List Int} (h : GlobAt w b g vs) (i : Int) (h0 : 0 ≤ i) (h1 : i ≤ 18446744073709551615) :
    Calls Tryz.prog 126 #[.pointer (some ⟨b, 0, none⟩), .int .u64 i] w fun e w' => e = .returned (.tuple #[.int .u64 (glV vs i), .int .i64 (glE vs i)]) ∧ w = w' := by
  have c0 := heap_cell h.blk 0
  simp at c0
  have hl := h.len
  have hw : IntKind.u64.wrap (vs.length : Int) = vs.length := by rw [IntKind.wrap_u64]; omega
  obtain ⟨i, rfl⟩ := Int.eq_ofNat_of_zero_le h0
  by_cases hi : i < vs.length
  · have c1 := heap_cell h.row i
    simp [u64s, hi] at c1
    have e1 : Hid (glV vs (i : Int) = vs[i]) := Lib.hid (by rw [glV, if_pos (by omega)]; simp [hi])
    have e2 : Hid (glE vs (i : Int) = 0) := Lib.hid (by rw [glE, if_pos (by omega)])
    obtain ⟨x, hx⟩ : ∃ x, vs[i] = x := ⟨_, rfl⟩
    rw [hx] at c1 e1
    obtain ⟨n, hn⟩ : ∃ n, vs.length = n := ⟨_, rfl⟩
    rw [hn] at c0 hl hw hi
    clear h hx hn
    go_enter Tryz.func126, Tryz.ntmps126
    go_wp2
    go_ret2
    exact ⟨by rw [e1.out, e2.out]; rfl, rfl⟩
  · have e1 : Hid (glV vs (i : Int) = 0) := Lib.hid (by rw [glV, if_neg (by omega)])
    have e2 : Hid (glE vs (i : Int) = 8) := Lib.hid (by rw [glE, if_neg (by omega)])
    obtain ⟨n, hn⟩ : ∃ n, vs.length = n := ⟨_, rfl⟩
    rw [hn] at c0 hl hw hi
    clear h hn
    go_enter Tryz.func126, Tryz.ntmps126
    go_wp2
    go_ret2
    exact ⟨by rw [e1.out, e2.out]; rfl, rfl⟩

set_option maxRecDepth 100000 in
theorem gSet_any {w : World} {b g : Nat} {vs : List Int} (h : GlobAt w b g vs) (i v : Int) (h0 : 0 ≤ i) (h1 : i ≤ 18446744073709551615) :
    Calls Tryz.prog 127 #[.pointer (some ⟨b, 0, none⟩), .int .u64 i, .int .u64 v] w fun e w' => e = .returned (.tuple #[.int .u64 (glV vs i), .int .i64 (glE vs i)]) ∧ Moved (fun q => q = g) w w' ∧ GlobAt w' b g (glS vs i v) := by
  have H := Lib.hid h
  have hG := gGet_any h i h0 h1
  have c0 := heap_cell h.blk 0
  simp at c0
  have hl := h.len
  obtain ⟨i, rfl⟩ := Int.eq_ofNat_of_zero_le h0
  by_cases hi : i < vs.length
  · have c1 := heap_cell h.row i
    have d1 := heap_free h.row i
    simp [u64s, hi] at c1
    have e2 : glE vs (i : Int) = 0 := by rw [glE, if_pos (by omega)]
    have e3 : Hid (glS vs (i : Int) v = vs.set i v) := Lib.hid (by rw [glS, if_pos (by omega), Int.toNat_natCast])
    rw [e2] at hG ⊢
    obtain ⟨x, hx⟩ : ∃ x, vs[i] = x := ⟨_, rfl⟩
    rw [hx] at c1
    obtain ⟨y, hy⟩ : ∃ y, glV vs (i : Int) = y := ⟨_, rfl⟩
    rw [hy] at hG ⊢
    obtain ⟨n, hn⟩ : ∃ n, vs.length = n := ⟨_, rfl⟩
    rw [hn] at c0 hl hi
    clear h hx hn hy e2
    go_enter Tryz.func127, Tryz.ntmps127
    go_wp2_with fail
    refine hG.mono ?_
    rintro e w1 ⟨rfl, rfl⟩
    clear hG
    go_wp2
    go_ret2
    refine ⟨rfl, Moved.of_set (S := fun q => q = g) w g i _ rfl, ?_⟩
    rw [e3.out]
    refine ⟨?_, ?_, by simpa using H.out.len⟩
    · rw [heap_set_ne H.out.ne]; simpa using H.out.blk
    · rw [heap_set H.out.row]; simp [u64s, List.map_set]
  · have e2 : glE vs (i : Int) = 8 := by rw [glE, if_neg (by omega)]
    have e3 : Hid (glS vs (i : Int) v = vs) := Lib.hid (by rw [glS, if_neg (by omega)])
    rw [e2] at hG ⊢
    obtain ⟨y, hy⟩ : ∃ y, glV vs (i : Int) = y := ⟨_, rfl⟩
    rw [hy] at hG ⊢
    clear h hy e2 c0
    go_enter Tryz.func127, Tryz.ntmps127
    go_wp2_with fail
    refine hG.mono ?_
    rintro e w1 ⟨rfl, rfl⟩
    clear hG
    go_wp2
    go_ret2
    exact ⟨rfl, Moved.refl _ _, by rw [e3.out]; exact H.out⟩
end Go.Proofs.YtcenagpkfimkbaaGreatDoor
/-
  tally.Tally: set, Add, Swap.
-/
namespace Go.Proofs.YtcenagpkfimkbaaGreatDoor
open Go Go.RowKit

def tSet (m : IM Int) (x n : Int) : IM Int := if n = 0 then mdel m x else mput m x n
theorem tSet_rising {m : IM Int} (h : Rising m) (x n : Int) : Rising (tSet m x n) := by
  unfold tSet
  split
  · exact h.del x
  · exact h.put x n
theorem at0_tSet {m : IM Int} (h : Rising m) (x n y : Int) : at0 (tSet m x n) y = if y = x then n else at0 m y := by
  unfold at0 tSet
  split
  · rename_i hn
    rw [lk_del h]
    split
    · simp [hn]
    · rfl
  · rw [lk_put h]
    split <;> rfl
theorem tSet_length (m : IM Int) (x n : Int) : (tSet m x n).length ≤ m.length + 1 := by
  unfold tSet
  split
  · have := mdel_length m x; omega
  · exact mput_length m x n

set_option maxRecDepth 100000 in
theorem taset_any {tb mb : Nat} {m : IM Int} {w : World} (h : TallyAt w tb mb m) (x n : Int) (h0 : -9223372036854775808 ≤ x) (h1 : x ≤ 9223372036854775807) (hl : m.length ≤ 1000000000) :
    Calls Tryz.prog 156 #[.pointer (some ⟨tb, 0, none⟩), .int .i64 x, .int .i64 n] w fun e w' => e = .returned (.tuple #[]) ∧ Moved (fun q => q = mb) w w' ∧ TallyAt w' tb mb (tSet m x n) := by
  have c0 := heap_cell h.blk 0
  simp at c0
  by_cases hn : n = 0
  · subst hn
    obtain ⟨w3, hr3, hm3, ht3⟩ := h.map.drop Tryz.underlying3 Tryz.underlying61 x (wf_i64 h0 h1) 0
    have H3 := Lib.hid (And.intro (h.del hm3 ht3) ht3)
    have e2 : Hid (tSet m x 0 = mdel m x) := Lib.hid (by rw [tSet, if_pos rfl])
    clear h hm3 ht3
    go_enter Tryz.func156, Tryz.ntmps156
    go_wp2
    refine bodyPost_ret (v := .tuple #[]) (by simp [results, Tryz.results156, go_sem]) rfl ?_
    exact ⟨rfl, Moved.turned H3.out.2, by rw [e2.out]; exact H3.out.1⟩
  · have y1 : (n == 0) = false := by simpa using hn
    obtain ⟨w3, hr3, hm3, ht3⟩ := h.map.store Tryz.underlying3 Tryz.underlying61 (by rw [mapV_length]; unfold maxLen; omega) x (.int .i64 n) (wf_i64 h0 h1)
    have H3 := Lib.hid (And.intro (h.put hm3 ht3) ht3)
    have e2 : Hid (tSet m x n = mput m x n) := Lib.hid (by rw [tSet, if_neg hn])
    clear h hm3 ht3 hn
    go_enter Tryz.func156, Tryz.ntmps156
    go_wp2
    go_end0
    exact ⟨rfl, Moved.turned H3.out.2, by rw [e2.out]; exact H3.out.1⟩


/-- A tally whose counts are numbers that can be told. -/
def Told (m : IM Int) : Prop := ∀ x, 0 ≤ at0 m x ∧ at0 m x ≤ 2147483647
def taE (m : IM Int) (x n : Int) : Int := if x < 1 then 1 else if n < -(at0 m x) ∨ 2147483647 - at0 m x < n then 8 else 0
def taL (m : IM Int) (x n : Int) : IM Int := if taE m x n = 0 then tSet m x (at0 m x + n) else m

set_option maxRecDepth 100000 in
set_option maxHeartbeats 1000000 in
theorem taAdd_any {tb mb : Nat} {m : IM Int} {w : World} (h : TallyAt w tb mb m) (ht : Told m) (x n : Int) (h0 : -9223372036854775808 ≤ x) (h1 : x ≤ 9223372036854775807) (n0 : -9223372036854775808 ≤ n) (n1 : n ≤ 9223372036854775807) (hl : m.length ≤ 1000000000) :
    Calls Tryz.prog 109 #[.pointer (some ⟨tb, 0, none⟩), .int .i64 x, .int .i64 n] w fun e w' => e = .returned (.int .i64 (taE m x n)) ∧ Moved (fun q => q = mb) w w' ∧ TallyAt w' tb mb (taL m x n) := by
  have H := Lib.hid h
  have hO := taOf_any h x h0 h1
  have hS := taset_any h x (at0 m x + n) h0 h1 hl
  have hb := ht x
  have e0 : Hid (taE m x n = if x < 1 then 1 else if n < -(at0 m x) ∨ 2147483647 - at0 m x < n then 8 else 0) := Lib.hid rfl
  have e9 : Hid (taE m x n = 0 → taL m x n = tSet m x (at0 m x + n)) := Lib.hid (fun h => by rw [taL, if_pos h])
  have e8 : Hid (taE m x n ≠ 0 → taL m x n = m) := Lib.hid (fun h => by rw [taL, if_neg h])
  obtain ⟨v, hv⟩ : ∃ v, at0 m x = v := ⟨_, rfl⟩
  rw [hv] at hO hS hb e0 e9
  obtain ⟨hb0, hb1⟩ := hb
  clear h ht hv
  by_cases hx : x < 1
  · have e1 : Hid (taE m x n = 1) := Lib.hid (by rw [e0.out, if_pos hx])
    clear hS
    go_enter Tryz.func109, Tryz.ntmps109
    go_wp2_with fail
    refine hO.mono ?_
    rintro e w1 ⟨rfl, rfl⟩
    clear hO
    go_wp2
    go_ret
    exact ⟨by rw [e1.out]; rfl, Moved.refl _ _, by rw [e8.out (by rw [e1.out]; decide)]; exact H.out⟩
  · have y5 : IntKind.i64.wrap (-v) = -v := by rw [IntKind.wrap_i64]; omega
    have y6 : IntKind.i64.wrap (2147483647 - v) = 2147483647 - v := by rw [IntKind.wrap_i64]; omega
    rcases (show n < -v ∨ (¬ n < -v ∧ 2147483647 - v < n) ∨ (¬ n < -v ∧ ¬ 2147483647 - v < n) by omega) with hc | ⟨hc, hd⟩ | ⟨hc, hd⟩
    · have e1 : Hid (taE m x n = 8) := Lib.hid (by rw [e0.out, if_neg hx, if_pos (.inl hc)])
      clear hS
      go_enter Tryz.func109, Tryz.ntmps109
      go_wp2_with fail
      refine hO.mono ?_
      rintro e w1 ⟨rfl, rfl⟩
      clear hO
      go_wp2
      go_ret
      exact ⟨by rw [e1.out]; rfl, Moved.refl _ _, by rw [e8.out (by rw [e1.out]; decide)]; exact H.out⟩
    · have e1 : Hid (taE m x n = 8) := Lib.hid (by rw [e0.out, if_neg hx, if_pos (.inr hd)])
      clear hS
      go_enter Tryz.func109, Tryz.ntmps109
      go_wp2_with fail
      refine hO.mono ?_
      rintro e w1 ⟨rfl, rfl⟩
      clear hO
      go_wp2
      go_ret
      exact ⟨by rw [e1.out]; rfl, Moved.refl _ _, by rw [e8.out (by rw [e1.out]; decide)]; exact H.out⟩
    · have e1 : Hid (taE m x n = 0) := Lib.hid (by rw [e0.out, if_neg hx, if_neg (by omega)])
      have n2 : n ≤ 2147483647 := by omega
      have n3 : -2147483647 ≤ n := by omega
      go_enter Tryz.func109, Tryz.ntmps109
      go_wp2_with fail
      refine hO.mono ?_
      rintro e w1 ⟨rfl, rfl⟩
      clear hO
      go_wp2_with fail
      refine hS.mono ?_
      rintro e w2 ⟨rfl, hm2, ht2⟩
      clear hS
      go_wp2
      go_ret
      exact ⟨by rw [e1.out]; rfl, hm2, by rw [e9.out e1.out]; exact ht2⟩

def swE (m : IM Int) (a b : Int) : Int := if a < 0 ∨ b < 0 then 1 else if (a ≠ 0 ∧ at0 m a = 0) ∨ (b ≠ 0 ∧ b ≠ a ∧ at0 m b = 2147483647) then 8 else 0
def swM (m : IM Int) (a : Int) : IM Int := if a ≠ 0 then tSet m a (at0 m a - 1) else m
def swL (m : IM Int) (a b : Int) : IM Int := if swE m a b = 0 then (if b ≠ 0 then tSet (swM m a) b (at0 (swM m a) b + 1) else swM m a) else m
theorem Told.sw {m : IM Int} (h : Told m) (hr : Rising m) {a : Int} (ha : a ≠ 0 → at0 m a ≠ 0) : Told (swM m a) := by
  intro x
  unfold swM
  split
  · rename_i h0
    rw [at0_tSet hr]
    split
    · have := h a; have := ha h0; omega
    · exact h x
  · exact h x
theorem sw_le {m : IM Int} (h : Told m) (hr : Rising m) {a b : Int} (h1 : ¬ (b ≠ 0 ∧ b ≠ a ∧ at0 m b = 2147483647)) (hb : b ≠ 0) (ha : a ≠ 0 → at0 m a ≠ 0) : at0 (swM m a) b + 1 ≤ 2147483647 := by
  unfold swM
  split
  · rename_i h0
    rw [at0_tSet hr]
    split
    · rename_i e; have := h a; omega
    · rename_i e; have := h b; omega
  · rename_i h0
    have h0 : a = 0 := by simpa using h0
    have := h b
    omega

set_option maxRecDepth 100000 in
set_option maxHeartbeats 2000000 in
theorem taSwap_any {tb mb : Nat} {m : IM Int} {w : World} (h : TallyAt w tb mb m) (ht : Told m) (a b : Int) (a0 : -9223372036854775808 ≤ a) (a1 : a ≤ 9223372036854775807) (b0 : -9223372036854775808 ≤ b) (b1 : b ≤ 9223372036854775807) (hl : m.length ≤ 100000000) :
    Calls Tryz.prog 169 #[.pointer (some ⟨tb, 0, none⟩), .int .i64 a, .int .i64 b] w fun e w' => e = .returned (.int .i64 (swE m a b)) ∧ Moved (fun q => q = mb) w w' ∧ TallyAt w' tb mb (swL m a b) := by
  have H := Lib.hid h
  have hr := h.rising
  have hA := taOf_any h a a0 a1
  have hB := taOf_any h b b0 b1
  have e8 : Hid (swE m a b ≠ 0 → swL m a b = m) := Lib.hid (fun h => by rw [swL, if_neg h])
  by_cases c1 : a < 0
  · have e1 : Hid (swE m a b = 1) := Lib.hid (by rw [swE, if_pos (.inl c1)])
    clear h hr hA hB ht
    go_enter Tryz.func169, Tryz.ntmps169
    go_wp2
    go_ret
    exact ⟨by rw [e1.out]; rfl, Moved.refl _ _, by rw [e8.out (by rw [e1.out]; decide)]; exact H.out⟩
  by_cases c2 : b < 0
  · have e1 : Hid (swE m a b = 1) := Lib.hid (by rw [swE, if_pos (.inr c2)])
    clear h hr hA hB ht
    go_enter Tryz.func169, Tryz.ntmps169
    go_wp2
    go_ret
    exact ⟨by rw [e1.out]; rfl, Moved.refl _ _, by rw [e8.out (by rw [e1.out]; decide)]; exact H.out⟩

  by_cases c3 : a = 0
  · subst c3
    by_cases c4 : b = 0
    · subst c4
      have e1 : Hid (swE m 0 0 = 0) := Lib.hid (by simp [swE])
      have e2 : Hid (swL m 0 0 = m) := Lib.hid (by rw [swL, if_pos e1.out]; simp [swM])
      clear hr ht
      clear h
      go_enter Tryz.func169, Tryz.ntmps169
      have H2 := Lib.hid (And.intro (Moved.refl (fun q => q = mb) w) H.out)
      clear hA hB
      go_wp2
      go_ret
      exact ⟨by rw [e1.out]; rfl, H2.out.1, by rw [e2.out]; exact H2.out.2⟩
    · have y1 : (b != 0) = true := by simpa using c4
      by_cases c5 : at0 m b = 2147483647
      · have e1 : Hid (swE m 0 b = 8) := Lib.hid (by rw [swE, if_neg (by omega), if_pos (.inr ⟨c4, c4, c5⟩)])
        rw [c5] at hB
        clear hr ht c4 c5
        clear h
        go_enter Tryz.func169, Tryz.ntmps169
        go_wp2_with fail
        refine hB.mono ?_
        rintro e w9 ⟨rfl, rfl⟩
        clear hA hB
        go_wp2
        go_ret
        exact ⟨by rw [e1.out]; rfl, Moved.refl _ _, by rw [e8.out (by rw [e1.out]; decide)]; exact H.out⟩
      · have e1 : Hid (swE m 0 b = 0) := Lib.hid (by rw [swE, if_neg (by omega), if_neg (by simp [c5])])
        have e3 : swM m 0 = m := by simp [swM]
        have hb := ht b
        obtain ⟨u, hu⟩ : ∃ u, at0 m b = u := ⟨_, rfl⟩
        have e2 : Hid (swL m 0 b = tSet m b (u + 1)) := Lib.hid (by rw [swL, if_pos e1.out, if_pos c4, e3, hu])
        have y2 : (u == 2147483647) = false := by rw [← hu]; simpa using c5
        rw [hu] at hB hb
        obtain ⟨hb2, hb3⟩ := hb
        have HU := Lib.hid hu
        have HL : Hid (m.length ≤ 1000000000) := Lib.hid (by omega)
        clear hr ht c4 c5 e3 hu
        clear h
        go_enter Tryz.func169, Tryz.ntmps169
        go_wp2_with fail
        refine hB.mono ?_
        rintro e w9 ⟨rfl, rfl⟩
        have H2 := Lib.hid (And.intro (Moved.refl (fun q => q = mb) w) H.out)
        clear hA hB
        have hB2 := taOf_any H2.out.2 b b0 b1
        have hS2 := taset_any H2.out.2 b (u + 1) b0 b1 HL.out
        rw [HU.out] at hB2
        go_wp2_with fail
        refine hB2.mono ?_
        rintro e w9 ⟨rfl, rfl⟩
        clear hB2
        go_wp2_with fail
        refine hS2.mono ?_
        rintro e w3 ⟨rfl, hm3, ht3⟩
        clear hS2
        go_wp2
        go_ret
        exact ⟨by rw [e1.out]; rfl, H2.out.1.trans hm3 (fun _ e => .inl e), by rw [e2.out]; exact ht3⟩
  · have x1 : (a != 0) = true := by simpa using c3
    by_cases c6 : at0 m a = 0
    · have e1 : Hid (swE m a b = 8) := Lib.hid (by rw [swE, if_neg (by omega), if_pos (.inl ⟨c3, c6⟩)])
      rw [c6] at hA
      clear hr ht c3 c6
      clear h
      go_enter Tryz.func169, Tryz.ntmps169
      go_wp2_with fail
      refine hA.mono ?_
      rintro e w9 ⟨rfl, rfl⟩
      clear hA hB
      go_wp2
      go_ret
      exact ⟨by rw [e1.out]; rfl, Moved.refl _ _, by rw [e8.out (by rw [e1.out]; decide)]; exact H.out⟩
    · have hS := taset_any h a (at0 m a - 1) a0 a1 (by omega)
      have hT : Told (swM m a) := ht.sw hr (fun _ => c6)
      have e3 : tSet m a (at0 m a - 1) = swM m a := by rw [swM, if_pos c3]
      rw [e3] at hS
      have hlen : (swM m a).length ≤ 1000000000 := by rw [← e3]; have := tSet_length m a (at0 m a - 1); omega
      have HL := Lib.hid hlen
      have ha := ht a
      obtain ⟨v, hv⟩ : ∃ v, at0 m a = v := ⟨_, rfl⟩
      rw [hv] at hA hS ha c6
      obtain ⟨ha2, ha3⟩ := ha
      have x2 : (v == 0) = false := by simpa using c6
      by_cases c4 : b = 0
      · subst c4
        have e1 : Hid (swE m a 0 = 0) := Lib.hid (by rw [swE, if_neg (by omega), if_neg (by simp [c3, hv, c6])])
        have e2 : Hid (swL m a 0 = swM m a) := Lib.hid (by rw [swL, if_pos e1.out]; simp)
        clear hr ht c3 c6 hT e3 hlen hv
        clear h
        go_enter Tryz.func169, Tryz.ntmps169
        go_wp2_with fail
        refine hA.mono ?_
        rintro e w9 ⟨rfl, rfl⟩
        go_wp2_with fail
        refine hA.mono ?_
        rintro e w9 ⟨rfl, rfl⟩
        clear hA hB
        go_wp2_with fail
        refine hS.mono ?_
        rintro e w2 ⟨rfl, hm2, ht2⟩
        have H2 := Lib.hid (And.intro hm2 ht2)
        clear hS hm2 ht2
        go_wp2
        go_ret
        exact ⟨by rw [e1.out]; rfl, H2.out.1, by rw [e2.out]; exact H2.out.2⟩
      · have y1 : (b != 0) = true := by simpa using c4
        have hb := hT b
        obtain ⟨u, hu⟩ : ∃ u, at0 (swM m a) b = u := ⟨_, rfl⟩
        by_cases c7 : b = a
        · have y3 : (b != a) = false := by simpa using c7
          have e1 : Hid (swE m a b = 0) := Lib.hid (by rw [swE, if_neg (by omega), if_neg (by simp [c7, hv, c6])])
          have e2 : Hid (swL m a b = tSet (swM m a) b (u + 1)) := Lib.hid (by rw [swL, if_pos e1.out, if_pos c4, hu])
          rw [hu] at hb
          obtain ⟨hb2, hb3⟩ := hb
          have HU := Lib.hid hu
          clear hr ht c3 c4 c6 c7 hT e3 hlen hv hu
          clear h
          go_enter Tryz.func169, Tryz.ntmps169
          go_wp2_with fail
          refine hA.mono ?_
          rintro e w9 ⟨rfl, rfl⟩
          go_wp2_with fail
          refine hA.mono ?_
          rintro e w9 ⟨rfl, rfl⟩
          clear hA hB
          go_wp2_with fail
          refine hS.mono ?_
          rintro e w2 ⟨rfl, hm2, ht2⟩
          have H2 := Lib.hid (And.intro hm2 ht2)
          clear hS hm2 ht2
          have hB2 := taOf_any H2.out.2 b b0 b1
          have hS2 := taset_any H2.out.2 b (u + 1) b0 b1 HL.out
          rw [HU.out] at hB2
          go_wp2_with fail
          refine hB2.mono ?_
          rintro e w9 ⟨rfl, rfl⟩
          clear hB2
          go_wp2_with fail
          refine hS2.mono ?_
          rintro e w3 ⟨rfl, hm3, ht3⟩
          clear hS2
          go_wp2
          go_ret
          exact ⟨by rw [e1.out]; rfl, H2.out.1.trans hm3 (fun _ e => .inl e), by rw [e2.out]; exact ht3⟩
        · have y3 : (b != a) = true := by simpa using c7
          by_cases c5 : at0 m b = 2147483647
          · have e1 : Hid (swE m a b = 8) := Lib.hid (by rw [swE, if_neg (by omega), if_pos (.inr ⟨c4, c7, c5⟩)])
            rw [c5] at hB
            clear hr ht c3 c4 c5 c6 c7 hT e3 hlen hv hu hb hS
            clear h
            go_enter Tryz.func169, Tryz.ntmps169
            go_wp2_with fail
            refine hA.mono ?_
            rintro e w9 ⟨rfl, rfl⟩
            go_wp2_with fail
            refine hB.mono ?_
            rintro e w9 ⟨rfl, rfl⟩
            clear hA hB
            go_wp2
            go_ret
            exact ⟨by rw [e1.out]; rfl, Moved.refl _ _, by rw [e8.out (by rw [e1.out]; decide)]; exact H.out⟩
          · have e1 : Hid (swE m a b = 0) := Lib.hid (by rw [swE, if_neg (by omega), if_neg (by simp [c5, hv, c6])])
            have e2 : Hid (swL m a b = tSet (swM m a) b (u + 1)) := Lib.hid (by rw [swL, if_pos e1.out, if_pos c4, hu])
            rw [hu] at hb
            obtain ⟨hb2, hb3⟩ := hb
            have HU := Lib.hid hu
            obtain ⟨z, hz⟩ : ∃ z, at0 m b = z := ⟨_, rfl⟩
            rw [hz] at hB c5
            have y4 : (z == 2147483647) = false := by simpa using c5
            clear hr ht c3 c4 c5 c6 c7 hT e3 hlen hv hu hz
            clear h
            go_enter Tryz.func169, Tryz.ntmps169
            go_wp2_with fail
            refine hA.mono ?_
            rintro e w9 ⟨rfl, rfl⟩
            go_wp2_with fail
            refine hB.mono ?_
            rintro e w9 ⟨rfl, rfl⟩
            go_wp2_with fail
            refine hA.mono ?_
            rintro e w9 ⟨rfl, rfl⟩
            clear hA hB
            go_wp2_with fail
            refine hS.mono ?_
            rintro e w2 ⟨rfl, hm2, ht2⟩
            have H2 := Lib.hid (And.intro hm2 ht2)
            clear hS hm2 ht2
            have hB2 := taOf_any H2.out.2 b b0 b1
            have hS2 := taset_any H2.out.2 b (u + 1) b0 b1 HL.out
            rw [HU.out] at hB2
            go_wp2_with fail
            refine hB2.mono ?_
            rintro e w9 ⟨rfl, rfl⟩
            clear hB2
            go_wp2_with fail
            refine hS2.mono ?_
            rintro e w3 ⟨rfl, hm3, ht3⟩
            clear hS2
            go_wp2
            go_ret
            exact ⟨by rw [e1.out]; rfl, H2.out.1.trans hm3 (fun _ e => .inl e), by rw [e2.out]; exact ht3⟩
end Go.Proofs.YtcenagpkfimkbaaGreatDoor
/-
  The stack of package frames: what it is in the model, and the contracts of New, Depth, top, Get.
-/
namespace Go.Proofs.YtcenagpkfimkbaaGreatDoor
open Go Go.RowKit

theorem drewN_add (w : World) (a b : Nat) : (w.drewN a).drewN b = w.drewN (a + b) := by simp [World.drewN, Nat.add_assoc]

/-- Where each frame's slots begin. -/
def offs (xss : List (List Int)) : List Int := (List.range xss.length).map fun i => ((xss.take i).flatten.length : Int)
theorem offs_length (xss : List (List Int)) : (offs xss).length = xss.length := by simp [offs]
theorem offs_concat (xss : List (List Int)) (l : List Int) : offs (xss ++ [l]) = offs xss ++ [(xss.flatten.length : Int)] := by
  apply List.ext_getElem?
  intro i
  simp only [offs, List.length_append, List.length_singleton, List.getElem?_map]
  rcases Nat.lt_trichotomy i xss.length with h | h | h
  · rw [List.getElem?_append_left (by simpa using h), List.getElem?_map, List.getElem?_range (by omega), List.getElem?_range h]
    simp only [Option.map_some, Option.some.injEq]
    rw [List.take_append_of_le_length (by omega)]
  · subst h
    rw [List.getElem?_append_right (by simp), List.getElem?_range (by omega)]
    simp
  · rw [List.getElem?_append_right (by simp; omega), List.getElem?_eq_none (by simp; omega)]
    simp
    omega

/-- At block sb lies a stack; its frames are xss; it owns the blocks of S. -/
def StackAt (w : World) (sb : Nat) (xss : List (List Int)) (S : Nat → Prop) : Prop :=
  ∃ sl fr, w.heap[sb]? = some (.cells #[sl, fr] 170 (0, 0)) ∧ w.ownsRow 0 34 1 sl xss.flatten.length (xss.flatten.map (Value.int .u64)) ∧ w.ownsRow 0 3 1 fr xss.length ((offs xss).map (Value.int .i64)) ∧
    S sb ∧ (∀ k, sl.ownBlock = some k → S k ∧ k ≠ sb ∧ fr.ownBlock ≠ some k) ∧ (∀ k, fr.ownBlock = some k → S k ∧ k ≠ sb) ∧ (∀ k, S k → k < w.heap.size) ∧ (∀ l ∈ xss, l.length ≤ 16) ∧ xss.length ≤ 64

theorem flat_len {xss : List (List Int)} (h : ∀ l ∈ xss, l.length ≤ 16) : xss.flatten.length ≤ xss.length * 16 := by
  induction xss with
  | nil => simp
  | cons a t ih =>
    have h1 := h a (by simp)
    have h2 := ih (fun l hl => h l (by simp [hl]))
    rw [List.flatten_cons, List.length_append, List.length_cons]
    omega

/-- A stack on which nothing that is its was turned. -/
theorem StackAt.moved {w w' : World} {sb : Nat} {xss : List (List Int)} {S T : Nat → Prop} (h : StackAt w sb xss S) (hm : Moved T w w') (hd : ∀ k, S k → ¬ T k) : StackAt w' sb xss S := by
  obtain ⟨sl, fr, h1, h2, h3, h4, h5, h6, h7, h8, h9⟩ := h
  exact ⟨sl, fr, hm.heap h1 (hd _ h4), hm.owns h2 (fun k hk => hd k (h5 k hk).1), hm.owns h3 (fun k hk => hd k (h6 k hk).1), h4, h5, h6, fun k hk => Nat.lt_of_lt_of_le (h7 k hk) hm.size, h8, h9⟩
theorem StackAt.later {w w' : World} {sb : Nat} {xss : List (List Int)} {S : Nat → Prop} (h : StackAt w sb xss S) (hb : Below w.heap.size w w') : StackAt w' sb xss S :=
  h.moved (Moved.of_below hb (fun _ => False)) (fun _ _ e => e)

theorem sNew_any (w : World) : Calls Tryz.prog 44 #[] w fun e w' => e = .returned (.pointer (some ⟨w.heap.size, 0, none⟩)) ∧ Below w.heap.size w w' ∧ StackAt w' w.heap.size [] (fun k => k = w.heap.size) := by
  go_enter Tryz.func44, Tryz.ntmps44
  go_wp2
  go_ret
  refine ⟨rfl, (Below.refl _ _).alloc (Nat.le_refl _) _, .slice none 0 0, .slice none 0 0, heap_alloc_eq _ _, World.ownsRow_nil _ _ _ _, World.ownsRow_nil _ _ _ _, rfl, by simp [Value.ownBlock], by simp [Value.ownBlock], fun k hk => by subst hk; simp, by simp, by simp⟩

theorem Depth_any {sb : Nat} {xss : List (List Int)} {S : Nat → Prop} {w : World} (h : StackAt w sb xss S) :
    Calls Tryz.prog 172 #[.pointer (some ⟨sb, 0, none⟩)] w fun e w' => e = .returned (.int .i64 xss.length) ∧ w' = w := by
  obtain ⟨sl, fr, h1, _, h3, _⟩ := h
  obtain ⟨a, cap, rfl, _⟩ := owns_slice h3
  have c1 := heap_cell h1 1
  simp at c1
  clear h1 h3
  go_enter Tryz.func172, Tryz.ntmps172
  go_wp2
  go_ret
  exact ⟨rfl, rfl⟩

/-- Where the top frame's slots lie. -/
def topA (a : Option Addr) (f n : Nat) : Option Addr := if n = f then a else a.map (·.add f)

theorem top_none {sb : Nat} {S : Nat → Prop} {w : World} (h : StackAt w sb [] S) :
    Calls Tryz.prog 173 #[.pointer (some ⟨sb, 0, none⟩)] w fun e w' => e = .returned (.tuple #[.slice none 0 0, .int .i64 2]) ∧ w' = w := by
  obtain ⟨sl, fr, h1, _, h3, _⟩ := h
  obtain ⟨a, cap, rfl, _⟩ := owns_slice h3
  have c1 := heap_cell h1 1
  simp at c1
  clear h1 h3
  go_enter Tryz.func173, Tryz.ntmps173
  go_wp2
  go_ret2
  exact ⟨rfl, rfl⟩

theorem top_some {sb : Nat} {w : World} (a : Option Addr) (n cap g m cb f : Nat) (c0 : w.cell? ⟨sb, 0, none⟩ = some (.slice a n cap)) (c1 : w.cell? ⟨sb, 1, none⟩ = some (.slice (some ⟨g, 0, none⟩) (m + 1) cb)) (c2 : w.cell? ⟨g, m, none⟩ = some (.int .i64 f)) (hf : f ≤ n) (hn : n ≤ cap) (hs : n ≤ 2000) (hm : m ≤ 64) :
    Calls Tryz.prog 173 #[.pointer (some ⟨sb, 0, none⟩)] w fun e w' => e = .returned (.tuple #[.slice (topA a f n) (n - f) (n - f), .int .i64 0]) ∧ ∃ q, w' = w.drewN q := by
  have hb : (((m + 1 : Nat) : Int) == 0) = false := by simp; omega
  have hw : IntKind.i64.wrap ((m : Int) + 1 - 1) = m := by rw [IntKind.wrap_i64]; omega
  go_enter Tryz.func173, Tryz.ntmps173
  by_cases hnf : n = f
  all_goals
    go_wp2
    go_quiet (fail)
    go_wp2
    go_quiet (fail)
    go_wp2
    go_ret2
    exact ⟨by simp [topA, hnf], _, drewN_add _ _ _⟩

/-- A stack with a frame on top, opened. -/
theorem StackAt.open_ {w : World} {sb : Nat} {xss : List (List Int)} {l : List Int} {S : Nat → Prop} (h : StackAt w sb (xss ++ [l]) S) :
    ∃ a cap g cb, w.heap[sb]? = some (.cells #[.slice a (xss.flatten.length + l.length) cap, .slice (some ⟨g, 0, none⟩) (xss.length + 1) cb] 170 (0, 0)) ∧
      w.ownsRow 0 34 1 (.slice a (xss.flatten.length + l.length) cap) (xss.flatten.length + l.length) ((xss.flatten ++ l).map (Value.int .u64)) ∧ w.ownsRow 0 3 1 (.slice (some ⟨g, 0, none⟩) (xss.length + 1) cb) (xss.length + 1) ((offs xss ++ [(xss.flatten.length : Int)]).map (Value.int .i64)) ∧
      w.cell? ⟨g, xss.length, none⟩ = some (.int .i64 xss.flatten.length) ∧ xss.flatten.length + l.length ≤ cap ∧ (a = none → xss.flatten.length + l.length = 0 ∧ cap = 0) ∧ (∀ q, a = some q → ∃ b, q = ⟨b, 0, none⟩ ∧ S b ∧ b ≠ sb ∧ b ≠ g) ∧ S sb ∧ S g ∧ g ≠ sb ∧
      (∀ k, S k → k < w.heap.size) ∧ (∀ l ∈ xss, l.length ≤ 16) ∧ l.length ≤ 16 ∧ xss.length ≤ 63 := by
  obtain ⟨sl, fr, h1, h2, h3, h4, h5, h6, h7, h8, h9⟩ := h
  rw [offs_concat] at h3
  simp only [List.flatten_append, List.flatten_cons, List.flatten_nil, List.append_nil, List.length_append, List.length_singleton] at h2 h3 h9
  obtain ⟨a, cap, rfl, hc, hn, hz⟩ := owns_slice h2
  obtain ⟨b, cb, rfl, hcb, hnb, hzb⟩ := owns_slice h3
  rcases b with _ | q
  · have := (hnb rfl).1; omega
  obtain ⟨g, rfl⟩ := hzb q rfl
  have hcell : w.cell? ⟨g, xss.length, none⟩ = some (.int .i64 xss.flatten.length) := by
    refine (h3.cellAt (g := g) xss.length (by omega)).trans ?_
    rw [List.map_append, List.getElem?_append_right (by simp [offs_length])]
    simp [offs_length]
  refine ⟨a, cap, g, cb, h1, h2, h3, hcell, hc, hn, fun q hq => ?_, h4, (h6 g rfl).1, (h6 g rfl).2, h7, fun l hl => h8 l (by simp [hl]), h8 l (by simp), by omega⟩
  obtain ⟨b, rfl⟩ := hz q hq
  subst hq
  have h := h5 b rfl
  exact ⟨b, rfl, h.1, h.2.1, fun e => h.2.2 (by rw [e]; rfl)⟩

/-- The top frame's slots as they are read. -/
theorem top_reads {w : World} {a : Option Addr} {cap : Nat} {xs l : List Int} (h : w.ownsRow 0 34 1 (.slice a (xs.length + l.length) cap) (xs.length + l.length) ((xs ++ l).map (Value.int .u64))) :
    Reads .u64 w (topA a xs.length (xs.length + l.length)) l ∧ (topA a xs.length (xs.length + l.length) = none → l = []) := by
  by_cases hl : l = []
  · subst hl; exact ⟨.inl rfl, fun _ => rfl⟩
  · have hp : 0 < l.length := List.length_pos_iff.2 hl
    obtain ⟨g, cap', cur, hs, _, hg⟩ := own_shape h (by omega)
    cases hs
    have e : topA (some ⟨g, 0, none⟩) xs.length (xs.length + l.length) = some ⟨g, xs.length, none⟩ := by
      unfold topA
      rw [if_neg (by omega)]
      simp [addr_add_none]
    rw [e]
    refine ⟨.inr ⟨g, xs.length, rfl, fun i hi => ?_⟩, by simp⟩
    refine (h.cellAt (g := g) (xs.length + i) (by omega)).trans ?_
    rw [List.map_append, List.getElem?_append_right (by simp)]
    simp [hi]

/-- What Get answers: the value, and the error's number. -/
def topV (xss : List (List Int)) (i : Int) : Int := match xss.getLast? with | none => 0 | some l => (l[i.toNat]?).getD 0
def topE (xss : List (List Int)) (i : Int) : Int := match xss.getLast? with | none => 2 | some l => if i < l.length then 0 else 8
theorem topV_nil (i : Int) : topV [] i = 0 := rfl
theorem topE_nil (i : Int) : topE [] i = 2 := rfl
theorem topV_concat (xss : List (List Int)) (l : List Int) (i : Int) : topV (xss ++ [l]) i = (l[i.toNat]?).getD 0 := by simp [topV]
theorem topE_concat (xss : List (List Int)) (l : List Int) (i : Int) : topE (xss ++ [l]) i = if i < l.length then 0 else 8 := by simp [topE]

theorem sGet_any {sb : Nat} {xss : List (List Int)} {S : Nat → Prop} {w : World} (h : StackAt w sb xss S) (i : Int) (h0 : 0 ≤ i) (h1 : i ≤ 18446744073709551615) :
    Calls Tryz.prog 130 #[.pointer (some ⟨sb, 0, none⟩), .int .u64 i] w fun e w' => e = .returned (.tuple #[.int .u64 (topV xss i), .int .i64 (topE xss i)]) ∧ ∃ q, w' = w.drewN q := by
  rcases List.eq_nil_or_concat xss with rfl | ⟨yss, l, rfl⟩
  · have ht := top_none h
    clear h
    rw [topV_nil, topE_nil]
    go_enter Tryz.func130, Tryz.ntmps130
    go_wp2_with fail
    refine ht.mono ?_
    rintro e w1 ⟨rfl, rfl⟩
    go_wp2
    go_ret2
    exact ⟨rfl, 0, rfl⟩
  · rw [List.concat_eq_append] at h ⊢
    obtain ⟨a, cap, g, cb, o1, o2, o3, o4, o5, o6, o7, o8, o9, o10, o11, o12, o13, o14⟩ := h.open_
    have hfl := flat_len o12
    have hrd := top_reads o2
    have c0 := heap_cell o1 0
    have c1 := heap_cell o1 1
    simp at c0 c1
    have ht := top_some (sb := sb) (w := w) a (yss.flatten.length + l.length) cap g yss.length cb yss.flatten.length (by simpa using c0) (by simpa using c1) o4 (by omega) o5 (by omega) (by omega)
    rw [Nat.add_sub_cancel_left] at ht
    rw [topV_concat, topE_concat]
    obtain ⟨ta, hta⟩ : ∃ ta, topA a yss.flatten.length (yss.flatten.length + l.length) = ta := ⟨_, rfl⟩
    rw [hta] at ht hrd
    obtain ⟨hr, hrn⟩ := hrd
    have HL : l.length ≤ 16 := o13
    clear o1 o2 o3 o4 o5 o6 o7 o8 o9 o10 o11 o12 o13 o14 c0 c1 hta hrn hfl h
    have hw : IntKind.u64.wrap (l.length : Int) = l.length := by rw [IntKind.wrap_u64]; omega
    by_cases hi : i < l.length
    · obtain ⟨i, rfl⟩ := Int.eq_ofNat_of_zero_le h0
      have hi' : i < l.length := by omega
      obtain ⟨b, off, rfl, hc⟩ := hr.at_ i hi'
      rw [if_pos hi, Int.toNat_natCast]
      obtain ⟨v, hv⟩ : ∃ v, l[i]?.getD 0 = v := ⟨_, rfl⟩
      rw [hv] at hc ⊢
      clear hv
      go_enter Tryz.func130, Tryz.ntmps130
      go_wp2_with fail
      refine ht.mono ?_
      rintro e w1 ⟨rfl, q, rfl⟩
      have hc' : (w.drewN q).cell? ⟨b, off + i, none⟩ = some (.int .u64 v) := hc
      clear hr hc
      go_wp2
      go_ret2
      exact ⟨rfl, q, rfl⟩
    · rw [if_neg hi, List.getElem?_eq_none (by omega)]
      go_enter Tryz.func130, Tryz.ntmps130
      go_wp2_with fail
      refine ht.mono ?_
      rintro e w1 ⟨rfl, q, rfl⟩
      clear hr
      go_wp2
      go_ret2
      exact ⟨rfl, q, rfl⟩
end Go.Proofs.YtcenagpkfimkbaaGreatDoor
/-
  Contract of desc.of: what a kind is, by the table 'desc.what'.
-/
namespace Go.Proofs.YtcenagpkfimkbaaGreatDoor
open Go Go.RowKit

/-- The table 'desc.what' lies in its block. -/
def Tab (w : World) : Prop := ∀ i, i < 4 → w.cell? ⟨1, i, none⟩ = some (.int .i64 (if i = 0 then 0 else 1))

theorem Tab.lt {w : World} (h : Tab w) : 1 < w.heap.size := cell_lt (h 0 (by omega))
theorem Tab.below {w w' : World} (h : Tab w) {B : Nat} (hB : 1 < B) (hb : Below B w w') : Tab w' := fun i hi =>
  (hb.cell (p := ⟨1, i, none⟩) hB).trans (h i hi)
theorem Tab.alloc {w : World} (h : Tab w) (o : Obj) : Tab (w.alloc o) := h.below h.lt ((Below.refl _ _).alloc (Nat.le_refl _) _)

def ofK (k : Int) : Int := if k < 0 ∨ 4 ≤ k then 2 else if k = 0 then 0 else 1

theorem of_any (k : Int) (w : World) (h0 : Tab w) :
    Calls Tryz.prog 167 #[.int .i64 k] w fun e w' => e = .returned (.int .i64 (ofK k)) ∧ w = w' := by
  have c0 := h0 0 (by omega)
  have c1 := h0 1 (by omega)
  have c2 := h0 2 (by omega)
  have c3 := h0 3 (by omega)
  simp at c0 c1 c2 c3
  clear h0
  rcases (show k < 0 ∨ 4 ≤ k ∨ k = 0 ∨ k = 1 ∨ k = 2 ∨ k = 3 by omega) with h | h | h | h | h | h
  · go_enter Tryz.func167, Tryz.ntmps167
    go_wp2
    go_ret
    exact ⟨by simp [ofK, h], rfl⟩
  · have h' : ¬ k < 0 := by omega
    go_enter Tryz.func167, Tryz.ntmps167
    go_wp2
    go_ret
    exact ⟨by simp [ofK, h], rfl⟩
  all_goals
    subst h
    go_enter Tryz.func167, Tryz.ntmps167
    go_wp2
    go_ret
    exact ⟨by simp [ofK], rfl⟩

end Go.Proofs.YtcenagpkfimkbaaGreatDoor
/-
  Lists of types: what they are in the model; desc.Kind, Pointer; kraallaw07.Great.
-/
namespace Go.Proofs.YtcenagpkfimkbaaGreatDoor
open Go Go.RowKit

def kindB (k : Int) : Bool := decide (0 ≤ k ∧ k < 4)
theorem kindB_ofK (k : Int) : (ofK k != 2) = kindB k := by
  unfold ofK kindB
  rw [Bool.eq_iff_iff]
  simp
  repeat' split
  all_goals omega
theorem Kind_any (k : Int) (w : World) (h0 : Tab w) :
    Calls Tryz.prog 140 #[.int .i64 k] w fun e w' => e = .returned (.bool (kindB k)) ∧ w = w' := by
  go_enter Tryz.func140, Tryz.ntmps140
  go_wp2_with (go_at_call 167; refine (of_any _ _ h0).mono ?_; rintro e w' ⟨rfl, rfl⟩)
  go_ret
  refine ⟨?_, rfl⟩
  rw [← kindB_ofK]
  rfl

theorem Reads.lt_or {k : IntKind} {w : World} {a : Option Addr} {xs : List Int} (h : Reads k w a xs) : xs = [] ∨ ∀ q, a = some q → q.block < w.heap.size := by
  rcases h with h | ⟨b, off, rfl, hc⟩
  · exact .inl h
  · rcases Nat.eq_zero_or_pos xs.length with hz | hz
    · exact .inl (List.length_eq_zero_iff.1 hz)
    · exact .inr (fun q e => by cases e; exact cell_lt (hc 0 hz))

/-- A list of types, as it is read. -/
def Descs (w : World) (a : Option Addr) (ds : List (List Int)) : Prop :=
  ds = [] ∨ ∃ b off, a = some ⟨b, off, none⟩ ∧ ∀ i, i < ds.length → ∃ (fa : Option Addr) (c : Nat), w.cell? ⟨b, off + i, none⟩ = some (.slice fa (ds.getD i []).length c) ∧ Reads .i64 w fa (ds.getD i []) ∧ (fa = none → ds.getD i [] = [] ∧ c = 0)
theorem Descs.below {w w' : World} {a : Option Addr} {ds : List (List Int)} (h : Descs w a ds) (hb : Below w.heap.size w w') : Descs w' a ds := by
  rcases h with h | ⟨b, off, ha, hc⟩
  · exact .inl h
  · refine .inr ⟨b, off, ha, fun i hi => ?_⟩
    obtain ⟨fa, c, h1, h2, h3⟩ := hc i hi
    exact ⟨fa, c, (hb.cell (cell_lt h1)).trans h1, h2.below hb, h3⟩
theorem Descs.at_ {w : World} {a : Option Addr} {ds : List (List Int)} (h : Descs w a ds) (i : Nat) (hi : i < ds.length) :
    ∃ (b off : Nat) (fa : Option Addr) (c : Nat) (d : List Int), a = some ⟨b, off, none⟩ ∧ ds[i]? = some d ∧ w.cell? ⟨b, off + i, none⟩ = some (.slice fa d.length c) ∧ Reads .i64 w fa d ∧ (fa = none → d = [] ∧ c = 0) := by
  rcases h with rfl | ⟨b, off, rfl, hc⟩
  · simp at hi
  · obtain ⟨fa, c, h1, h2, h3⟩ := hc i hi
    refine ⟨b, off, fa, c, ds.getD i [], rfl, ?_, h1, h2, h3⟩
    simp [hi]

/-- More than are gone through? -/
def greatB (ds : List (List Int)) : Bool := ds.any (fun d => decide (100 < d.length)) || decide (60 < ds.length)
theorem greatB_false {ds : List (List Int)} (h : greatB ds = false) : ds.length ≤ 60 ∧ ∀ d ∈ ds, d.length ≤ 100 := by
  unfold greatB at h
  simp at h
  exact ⟨h.2, fun d hd => h.1 d hd⟩

set_option maxHeartbeats 1000000 in
theorem Great_any (a : Option Addr) (ds : List (List Int)) (c : Nat) (w : World) (hD : Descs w a ds) (hn : ds.length ≤ 9223372036854775807) :
    Calls Tryz.prog 35 #[.slice a ds.length c] w fun e w' => e = .returned (.bool (greatB ds)) ∧ Below w.heap.size w w' := by
  go_enter Tryz.func35, Tryz.ntmps35
  go_wp2
  go_loopw [7] (fun i wr => ∃ j : Nat, j ≤ ds.length ∧ i = .int .i64 j ∧ (∀ d ∈ ds.take j, d.length ≤ 100) ∧ Below w.heap.size w wr) (fun i _ => ds.length - (intOf i).toNat)
  case atStart => exact ⟨0, Nat.zero_le _, rfl, by simp, Below.refl _ _⟩
  case round =>
    obtain ⟨j, hj, rfl, hall, hB⟩ := hrel
    have HA := Lib.hid hall
    clear hall
    by_cases hlt : j < ds.length
    · obtain ⟨b, off, fa, c', d, rfl, hd, hc, hr, _⟩ := (hD.below hB).at_ j hlt
      have HD := Lib.hid hd
      clear hd hD
      have hbo := hB.alloc hB.size (.cells #[.slice fa d.length c'] 76)
      by_cases hg : 100 < d.length
      · go_wp2
        go_ret
        refine ⟨ret_bool ?_, hbo⟩
        symm
        unfold greatB
        have : d ∈ ds := List.mem_of_getElem? HD.out
        simp only [Bool.or_eq_true, List.any_eq_true, decide_eq_true_eq]
        exact .inl ⟨d, this, hg⟩
      · go_wp2
        go_roundw
        case rel =>
          refine ⟨j + 1, by omega, by go_num, ?_, hbo⟩
          intro x hx
          rw [List.take_add_one, HD.out] at hx
          simp at hx
          rcases hx with hx | rfl
          · exact HA.out x hx
          · omega
        case measure => simp [intOf]; omega
    · obtain rfl : j = ds.length := by omega
      go_wp2
      go_ret
      refine ⟨ret_bool ?_, hB⟩
      unfold greatB
      have h1 := HA.out
      rw [List.take_length] at h1
      have h2 : ds.any (fun d => decide (100 < d.length)) = false := by
        rw [List.any_eq_false]
        intro d hd
        have := h1 d hd
        simp
        omega
      rw [h2]
      simp
      omega
end Go.Proofs.YtcenagpkfimkbaaGreatDoor
/-
  slices.Clone of a row of ints.
-/
namespace Go.Proofs.YtcenagpkfimkbaaGreatDoor
open Go Go.RowKit

theorem Clone_int_nil (w : World) : Calls Tryz.prog 171 #[.slice none 0 0] w (RetOwn .i64 3 [] w) := by
  have hq := fun w => Lib.run_eql_slice_nil (P := Tryz.prog) w 58 3 none 0 0 0 0 Tryz.underlying58
  go_enter Tryz.func171, Tryz.ntmps171
  go_wp2
  go_ret
  exact ⟨_, rfl, Below.refl _ _, World.ownsRow_nil _ _ _ _⟩
theorem Clone_int_some (ad : Addr) (xs : List Int) (cap : Nat) (w : World) (h : Reads .i64 w (some ad) xs) (hn : xs.length * 8 ≤ 140737488351232) :
    Calls Tryz.prog 171 #[.slice (some ad) xs.length cap] w (RetOwn .i64 3 xs w) := by
  obtain ⟨i0, hi, hz0, hz1, hz2⟩ := info_parts info_int
  have hcs := Lib.hid (cells_of_reads h)
  have hq := fun w => Lib.run_eql_slice_nil (P := Tryz.prog) w 58 3 (some ad) xs.length cap 0 0 Tryz.underlying58
  go_enter Tryz.func171, Tryz.ntmps171
  go_wp2_with (at_builtin; refine wpList_append_own _ rfl _ _ 58 rfl w.heap.size 3 i0 (.int .i64 0) 1 8 Tryz.underlying58 hi hz0 hz1 hz2 rfl (by decide) _ _ _ rfl (World.ownsRow_made w #[] 0 (Nat.le_refl _) (by decide) rfl) ad xs.length cap (xs.map (Value.int .i64)) rfl ?c0 ?c1 ?c2 ?c3 ?c4 ?c5 ?_)
  case c0 => simp
  case c1 => exact fun j u hj => (cell_alloc_old _ (hcs.out j u hj))
  case c2 => exact ints_oneCell _ _
  case c3 => unfold maxLen; omega
  case c4 => omega
  case c5 => simp
  · intro v' w1 hown' hgrow _
    go_wp2
    go_ret
    refine ⟨_, rfl, ?_, by simpa using hown'⟩
    exact ((Below.refl _ _).alloc (Nat.le_refl _) _).grown hgrow (by simp) (fun k e => by simp [Value.ownBlock] at e; omega)

theorem Clone_int_any (a : Option Addr) (xs : List Int) (cap : Nat) (w : World) (h : Reads .i64 w a xs) (hn : xs.length * 8 ≤ 140737488351232) (h0 : a = none → xs = [] ∧ cap = 0) :
    Calls Tryz.prog 171 #[.slice a xs.length cap] w (RetOwn .i64 3 xs w) := by
  rcases a with _ | ad
  · obtain ⟨rfl, rfl⟩ := h0 rfl
    exact Clone_int_nil w
  · exact Clone_int_some ad xs cap w h hn
end Go.Proofs.YtcenagpkfimkbaaGreatDoor
/-
  slices.Repeat of one number; math/bits.Mul at 1.
-/
namespace Go.Proofs.YtcenagpkfimkbaaGreatDoor
open Go Go.RowKit

theorem mask1 : bits .and .u64 1 4294967295 = 1 := by decide
theorem maskn (n : Nat) (hn : n ≤ 4000) : bits .and .u64 (n : Int) 4294967295 = n := by
  have h := bits_and_u64_nat n 4294967295 (by omega) (by omega)
  have e : n &&& 4294967295 = n % 4294967296 := Nat.and_two_pow_sub_one_eq_mod n 32
  rw [e] at h
  rw [Nat.mod_eq_of_lt (by omega)] at h
  exact h
theorem mask0 : bits .and .u64 0 4294967295 = 0 := by decide
theorem wrapn (n : Nat) (hn : n ≤ 4000) : IntKind.u64.wrap (n : Int) = n := by rw [IntKind.wrap_u64]; omega
theorem wrapni (n : Nat) (hn : n ≤ 4000) : IntKind.i64.wrap (n : Int) = n := by rw [IntKind.wrap_i64]; omega

theorem Mul64_one (n : Nat) (hn : n ≤ 4000) (w : World) :
    Calls Tryz.prog 226 #[.int .u64 1, .int .u64 n] w fun e w' => e = .returned (.tuple #[.int .u64 0, .int .u64 n]) ∧ w = w' := by
  have m1 := mask1
  have m2 := maskn n hn
  have m3 := mask0
  have w1 := wrapn n hn
  have d1 : (n : Int) / 4294967296 = 0 := by omega
  go_enter Tryz.func226, Tryz.ntmps226
  go_wp2
  go_ret2
  exact ⟨rfl, rfl⟩
theorem Mul_one (n : Nat) (hn : n ≤ 4000) (w : World) :
    Calls Tryz.prog 211 #[.int .u64 1, .int .u64 n] w fun e w' => e = .returned (.tuple #[.int .u64 0, .int .u64 n]) ∧ w = w' := by
  have w1 := wrapn n hn
  go_enter Tryz.func211, Tryz.ntmps211
  go_wp2_with (go_at_call 226; refine (Mul64_one n hn _).mono ?_; rintro e w' ⟨rfl, rfl⟩)
  go_ret2
  exact ⟨rfl, rfl⟩

/-- A row of n numbers, of which the first j are k. -/
def repL (k : Int) (j n : Nat) : List Value := List.replicate j (.int .i64 k) ++ List.replicate (n - j) (.int .i64 0)
theorem repL_length (k : Int) (j n : Nat) (h : j ≤ n) : (repL k j n).length = n := by simp [repL]; omega
theorem repL_splice (k : Int) (j n m : Nat) (h : j + m ≤ n) : splice (repL k j n) j (List.replicate m (.int .i64 k)) = repL k (j + m) n := by
  unfold splice repL
  rw [List.take_left' (by simp), List.length_replicate, List.drop_append, List.drop_eq_nil_of_le (by simp), List.nil_append, List.length_replicate, List.drop_replicate, ← List.append_assoc, List.replicate_append_replicate]
  rw [show n - j - (j + m - j) = n - (j + m) by omega]
theorem repL_at (k : Int) (j n q : Nat) (h : q < j) : (repL k j n)[q]? = some (.int .i64 k) := by
  unfold repL
  rw [List.getElem?_append_left (by simpa using h), List.getElem?_replicate, if_pos h]
theorem repL_all (k : Int) (n : Nat) : repL k n n = (List.replicate n k).map (Value.int .i64) := by simp [repL]

theorem run_mkI (n : Nat) (hn : n ≤ 4000) (k : Int) (w : World) :
    (Instr.makeSlice 58 (.int .i64 n) (.int .i64 n)).run Tryz.prog w = .ok (.slice (some ⟨w.heap.size, 0, none⟩) n n) (w.alloc (.cells (repL k 0 n).toArray 3)) := by
  obtain ⟨i0, hi, hz0, hz1, hz2⟩ := info_parts info_int
  have := run_make (P := Tryz.prog) w 58 3 i0 (.int .i64 0) Tryz.underlying58 hi hz0 .i64 .i64 n n (by omega) (by omega) (by rw [hz2]; omega) (by omega)
  rw [this, hz1]
  simp only [Nat.mul_one]
  have e : madeCells #[.int .i64 0] n = (repL k 0 n).toArray := by
    apply Array.toList_inj.1
    simp [repL, toList_madeCells_one]
  simp [Value.cells, e]
theorem size_int1 : (Tryz.prog.info? 3).map (·.size) = some 1 := by kernel_rfl

set_option maxHeartbeats 1000000 in
theorem Repeat_any (b off c : Nat) (k : Int) (n : Nat) (w : World) (hc : w.cell? ⟨b, off, none⟩ = some (.int .i64 k)) (hn : n ≤ 4000) :
    Calls Tryz.prog 179 #[.slice (some ⟨b, off, none⟩) 1 c, .int .i64 n] w (RetOwn .i64 3 (List.replicate n k) w) := by
  have hmk := run_mkI n hn k
  have hmul := Mul_one n hn
  have w1 := wrapn n hn
  have w2 := wrapni n hn
  have HC := Lib.hid hc
  clear hc
  obtain ⟨cs, hcs⟩ : ∃ cs, cs = List.replicate (min 1 n) (Value.int .i64 k) := ⟨_, rfl⟩
  have HCS := Lib.hid hcs
  clear hcs
  have hlen : cs.length = min 1 n := by rw [HCS.out]; simp
  have HL := Lib.hid hlen
  clear hlen
  go_enter Tryz.func179, Tryz.ntmps179
  go_wp2_with (first | (go_at_call 211; refine (hmul _).mono ?_; rintro e w' ⟨rfl, rfl⟩) | (refine wpList_copy_splice rfl (.tmp 31) (.tmp 32) 58 58 rfl 3 Tryz.underlying58 size_int1 (some ⟨w.heap.size, 0, none⟩) (some ⟨b, off, none⟩) n n 1 c rfl rfl w.heap.size 0 (repL k 0 n) 3 (heap_alloc_eq _ _) cs HL.out ?c1 ?c2 ?c3 w.heap.size w ((Below.refl _ _).alloc (Nat.le_refl _) _) (Nat.le_refl _) ?_))
  case c1 =>
    intro _ j v hj
    have hl := HL.out
    have hj2 := (List.getElem?_eq_some_iff.1 hj).1
    obtain rfl : j = 0 := by omega
    rw [HCS.out, List.getElem?_replicate] at hj
    split at hj
    · cases hj
      rw [Nat.add_zero]
      exact cell_alloc_old _ HC.out
    · cases hj
  case c2 =>
    rw [repL_length _ _ _ (Nat.zero_le _), HL.out]
    omega
  case c3 => intro v hv; rw [HCS.out, List.mem_replicate] at hv; rw [hv.2]; rfl
  intro w2 HG hB
  have HG2 : Hid (w2.heap[w.heap.size]? = some (.cells (repL k cs.length n).toArray 3 (0, 0))) := by
    refine Lib.hid ?_
    rw [HG.out, HCS.out, List.length_replicate, repL_splice _ _ _ _ (by omega), Nat.zero_add]
  have hj1 : cs.length ≤ n := by rw [HL.out]; omega
  have hj2 : 0 < n → 0 < cs.length := fun h => by
    rw [HL.out]
    omega
  generalize cs.length = q at HG2 hj1 hj2 ⊢
  clear HG
  have HJ := Lib.hid hj2
  clear hj2
  go_wp2
  go_loopw [8] (fun i wr => ∃ j : Nat, j ≤ n ∧ Hid (0 < n → 0 < j) ∧ i = .int .i64 j ∧ Hid (wr.heap[w.heap.size]? = some (.cells (repL k j n).toArray 3 (0, 0))) ∧ Below w.heap.size w wr) (fun i _ => n - (intOf i).toNat)
  case atStart => exact ⟨q, hj1, HJ, rfl, HG2, hB⟩
  case round =>
    obtain ⟨j, hj, hp, rfl, hg, hB⟩ := hrel
    by_cases hlt : j < n
    · have hjp := hp.out (by omega)
      obtain ⟨ds, hds⟩ : ∃ cs, cs = List.replicate (min j (n - j)) (Value.int .i64 k) := ⟨_, rfl⟩
      have HDS := Lib.hid hds
      clear hds
      have hlen : ds.length = min j (n - j) := by rw [HDS.out]; simp
      have HDL := Lib.hid hlen
      clear hlen
      have i0 : (0 : Int) ≤ (j : Int) := by omega
      have i1 : (j : Int) ≤ (n : Int) := by omega
      have i2 : (j : Int) < (n : Int) := by omega
      have H4 : Hid (∀ q v, ds[q]? = some v → wr.drew.cell? ((⟨w.heap.size, 0, none⟩ : Addr).add q) = some v) := by
        refine Lib.hid fun q v hq => ?_
        have hq2 := (List.getElem?_eq_some_iff.1 hq).1
        rw [HDL.out] at hq2
        rw [HDS.out, List.getElem?_replicate] at hq
        have h8 : (repL k j n)[q]? = some (.int .i64 k) := repL_at k j n q (by omega)
        rw [if_pos hq2] at hq
        cases hq
        rw [addr_add_none, Nat.zero_add, show wr.drew.cell? ⟨w.heap.size, q, none⟩ = (repL k j n).toArray[q]? from heap_cell (w := wr.drew) hg.out q]
        simpa using h8
      have H5 : Hid (j + ds.length ≤ (repL k j n).length) := by
        refine Lib.hid ?_
        rw [repL_length _ _ _ hj, HDL.out]
        omega
      have H6 : Hid (∀ v ∈ ds, v.oneCell' = true) := by
        refine Lib.hid fun v hv => ?_
        rw [HDS.out, List.mem_replicate] at hv
        rw [hv.2]
        rfl
      have hBd : Below w.heap.size w wr.drew := hB.drew
      have hgd : Hid (wr.drew.heap[w.heap.size]? = some (.cells (repL k j n).toArray 3 (0, 0))) := hg
      have n1 : ¬ n = j := by omega
      have hs : IntKind.i64.wrap ((j : Int) + (ds.length : Int)) = (j : Int) + (ds.length : Int) := by
        have h9 := HDL.out
        rw [IntKind.wrap_i64]
        omega
      go_wp2
      go_region_law (refine step_copy_splice rfl _ _ _ _ rfl 3 Tryz.underlying58 size_int1 (some ⟨w.heap.size, j, none⟩) (some ⟨w.heap.size, 0, none⟩) (n - j) (n - j) j n (by go_simp) (by go_simp) w.heap.size j (repL k j n) 3 hgd.out ds HDL.out (fun _ => ⟨rfl, _, rfl, H4.out⟩) H5.out H6.out w.heap.size w hBd (Nat.le_refl _) ?_; intro w3 HG3 hB3)
      have hm : 0 < ds.length ∧ j + ds.length ≤ n := by rw [HDL.out]; omega
      have HG4 : Hid (w3.heap[w.heap.size]? = some (.cells (repL k (j + ds.length) n).toArray 3 (0, 0))) := by
        refine Lib.hid ?_
        rw [HG3.out, show ds = List.replicate ds.length (Value.int .i64 k) by rw [HDL.out]; exact HDS.out, repL_splice _ _ _ _ hm.2, List.length_replicate]
      generalize ds.length = m at HG4 hm hs ⊢
      obtain ⟨hm0, hm1⟩ := hm
      clear HG3 H4 H5 H6 hBd hgd hB hg
      go_simp
      go_roundw
      case rel => exact ⟨.int .i64 ((j : Int) + (m : Int)), _, _, _, _, _, _, _, _, _, _, _, _, _, ⟨j + m, hm1, Lib.hid (fun _ => by omega), by go_num, HG4, hB3⟩, rfl⟩
      case measure => simp [intOf]; omega
    · obtain rfl : j = n := by omega
      have hown : wr.ownsRow w.heap.size 3 1 (.slice (some ⟨w.heap.size, 0, none⟩) j j) (List.replicate j k).length ((List.replicate j k).map (Value.int .i64)) := by
        refine ⟨by simp, .inr ⟨w.heap.size, j, _, by simp, Nat.le_refl _, hg.out, by simp, by unfold maxLen; omega, by simp [repL], ?_⟩⟩
        simp [repL]
      go_wp2
      go_ret
      exact ⟨_, by simp, hB, hown⟩
end Go.Proofs.YtcenagpkfimkbaaGreatDoor
