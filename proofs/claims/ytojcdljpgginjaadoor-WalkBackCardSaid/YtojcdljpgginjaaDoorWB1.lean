/-
  The law WalkBack: what stays through its first loop.
-/
import Derived.Test.YtojcdljpgginjaaDoorBackP
import Derived.Test.YtojcdljpgginjaaDoorAll
import Derived.Test.YtojcdljpgginjaaDoorWFix
import Derived.Test.YtojcdljpgginjaaDoorLaid3
import Derived.Deep.RegionHeld3
import Derived.Deep.AppendLies
import Derived.StillTailTactics
namespace Go.Proofs.YtojcdljpgginjaaDoor
open Go Go.RowKit

/-- Heads, as they are read. -/
def Heads (w : World) (a : Option Addr) (hs : List (Bool × Int × Int × Int)) : Prop :=
  hs = [] ∨ ∃ b off, a = some ⟨b, off, none⟩ ∧ ∀ i, i < hs.length → w.cell? ⟨b, off + i * 4, none⟩ = some (.bool (hs.getD i (false, 0, 0, 0)).1) ∧ w.cell? ⟨b, off + i * 4 + 1, none⟩ = some (.int .i64 (hs.getD i (false, 0, 0, 0)).2.1) ∧ w.cell? ⟨b, off + i * 4 + 2, none⟩ = some (.int .i64 (hs.getD i (false, 0, 0, 0)).2.2.1) ∧ w.cell? ⟨b, off + i * 4 + 3, none⟩ = some (.int .i64 (hs.getD i (false, 0, 0, 0)).2.2.2)
theorem Heads.below {w w' : World} {a : Option Addr} {hs : List (Bool × Int × Int × Int)} (h : Heads w a hs) (hb : Below w.heap.size w w') : Heads w' a hs := by
  rcases h with h | ⟨b, off, ha, hc⟩
  · exact .inl h
  · refine .inr ⟨b, off, ha, fun i hi => ?_⟩
    obtain ⟨h0, h1, h2, h3⟩ := hc i hi
    exact ⟨(hb.cell (cell_lt h0)).trans h0, (hb.cell (cell_lt h1)).trans h1, (hb.cell (cell_lt h2)).trans h2, (hb.cell (cell_lt h3)).trans h3⟩
theorem Heads.at_ {w : World} {a : Option Addr} {hs : List (Bool × Int × Int × Int)} (h : Heads w a hs) (i : Nat) (hi : i < hs.length) :
    ∃ (b off : Nat) (x : Bool) (k t n : Int), a = some ⟨b, off, none⟩ ∧ hs[i]? = some (x, k, t, n) ∧ w.cell? ⟨b, off + i * 4, none⟩ = some (.bool x) ∧ w.cell? ⟨b, off + i * 4 + 1, none⟩ = some (.int .i64 k) ∧ w.cell? ⟨b, off + i * 4 + 2, none⟩ = some (.int .i64 t) ∧ w.cell? ⟨b, off + i * 4 + 3, none⟩ = some (.int .i64 n) := by
  rcases h with rfl | ⟨b, off, rfl, hc⟩
  · simp at hi
  · obtain ⟨h0, h1, h2, h3⟩ := hc i hi
    exact ⟨b, off, _, _, _, _, rfl, by simp [hi], h0, h1, h2, h3⟩

/-- A row of runs, a row of heads, cell by cell. -/
def runCells (rs : List (Int × Int)) : List Value := rs.flatMap fun p => [.int .i64 p.1, .int .i64 p.2]
def headCells (gs : List (Bool × Int × Int)) : List Value := gs.flatMap fun g => [.bool g.1, .int .i64 g.2.1, .int .i64 0, .int .i64 g.2.2]
theorem runCells_snoc (rs : List (Int × Int)) (f k : Int) : runCells (rs ++ [(f, k)]) = runCells rs ++ [.int .i64 f, .int .i64 k] := by simp [runCells]
theorem headCells_snoc (gs : List (Bool × Int × Int)) (a : Bool) (k n : Int) : headCells (gs ++ [(a, k, n)]) = headCells gs ++ [.bool a, .int .i64 k, .int .i64 0, .int .i64 n] := by simp [headCells]

/-- What stays through the first loop: two rows of the law's own. -/
structure WB (w0 : World) (v6 v7 : Value) (m6 m7 : Nat) (l6 l7 : List Value) (W : World) : Prop where
  b : Below w0.heap.size w0 W
  o6 : W.ownsRow w0.heap.size 24 2 v6 m6 l6
  o7 : W.ownsRow w0.heap.size 26 4 v7 m7 l7
theorem WB.below {w0 : World} {v6 v7 : Value} {m6 m7 : Nat} {l6 l7 : List Value} {W W' : World} (h : WB w0 v6 v7 m6 m7 l6 l7 W) (hb : Below W.heap.size W W') : WB w0 v6 v7 m6 m7 l6 l7 W' :=
  ⟨h.b.trans (hb.mono h.b.size), owns_below h.o6 hb, owns_below h.o7 hb⟩
theorem WB.alloc {w0 : World} {v6 v7 : Value} {m6 m7 : Nat} {l6 l7 : List Value} {W : World} (h : WB w0 v6 v7 m6 m7 l6 l7 W) (o : Obj) : WB w0 v6 v7 m6 m7 l6 l7 (W.alloc o) := h.below ((Below.refl _ _).alloc (Nat.le_refl _) _)
theorem WB.drew {w0 : World} {v6 v7 : Value} {m6 m7 : Nat} {l6 l7 : List Value} {W : World} (h : WB w0 v6 v7 m6 m7 l6 l7 W) : WB w0 v6 v7 m6 m7 l6 l7 W.drew := h.below ⟨rfl, rfl, rfl, Nat.le_refl _, fun _ _ => rfl⟩
theorem own_block {w : World} {B : Nat} {t : TypeId} {size : Nat} {v : Value} {n : Nat} {xs : List Value} (h : w.ownsRow B t size v n xs) {k : Nat} (hk : v.ownBlock = some k) : B ≤ k ∧ ∃ cur, w.heap[k]? = some (.cells cur t (0, 0)) := by
  rcases h.2 with ⟨rfl, _⟩ | ⟨g, cap, cur, rfl, hB, hg, _⟩
  · simp [Value.ownBlock] at hk
  · obtain rfl : g = k := by simpa [Value.ownBlock] using hk
    exact ⟨hB, cur, hg⟩
theorem WB.app6 {w0 : World} {v6 v7 v6' : Value} {m6 m7 m6' : Nat} {l6 l7 l6' : List Value} {W W' : World} (h : WB w0 v6 v7 m6 m7 l6 l7 W) (ho : W'.ownsRow w0.heap.size 24 2 v6' m6' l6') (hg : W.grownBy W' v6.ownBlock) : WB w0 v6' v7 m6' m7 l6' l7 W' := by
  have hm : Moved (fun k => v6.ownBlock = some k) W W' := .of_grown hg (fun k e => e)
  refine ⟨hm.below h.b h.b.size (fun q hq => (own_block h.o6 hq).1), ho, hm.owns h.o7 (fun k hk e => ?_)⟩
  obtain ⟨_, cur, hc⟩ := own_block h.o6 e
  exact owns_ne h.o7 hc (by simp) hk
theorem WB.app7 {w0 : World} {v6 v7 v7' : Value} {m6 m7 m7' : Nat} {l6 l7 l7' : List Value} {W W' : World} (h : WB w0 v6 v7 m6 m7 l6 l7 W) (ho : W'.ownsRow w0.heap.size 26 4 v7' m7' l7') (hg : W.grownBy W' v7.ownBlock) : WB w0 v6 v7' m6 m7' l6 l7' W' := by
  have hm : Moved (fun k => v7.ownBlock = some k) W W' := .of_grown hg (fun k e => e)
  refine ⟨hm.below h.b h.b.size (fun q hq => (own_block h.o7 hq).1), hm.owns h.o6 (fun k hk e => ?_), ho⟩
  obtain ⟨_, cur, hc⟩ := own_block h.o7 e
  exact owns_ne h.o6 hc (by simp) hk
theorem cells_at {w : World} {n : Nat} {cs : List Value} {t : TypeId} (h : w.heap.size = n) : ∀ j u, cs[j]? = some u → (w.alloc (.cells cs.toArray t)).cell? ((⟨n, 0, none⟩ : Addr).add j) = some u := by
  subst h
  exact cells_new w cs t
theorem own_far {w : World} {B : Nat} {e t : TypeId} {size : Nat} {v : Value} {n : Nat} {xs : List Value} (h : w.ownsRow B e size v n xs) {k : Nat} {cs : Array Value} {fr : Nat × Nat} (hk : w.heap[k]? = some (.cells cs t fr)) (ht : t ≠ e) : v.ownBlock ≠ some k :=
  owns_ne h hk (fun cur f hc => by simp only [Obj.cells.injEq] at hc; exact ht hc.2.1)
/-- A block of another kind than both rows. -/
theorem far_row {v6 : Value} {W W' : World} (hg : W.grownBy W' v6.ownBlock) {k : Nat} {cs : Array Value} {t : TypeId} (hk : W.heap[k]? = some (.cells cs t (0, 0))) (ht : v6.ownBlock ≠ some k) : W'.heap[k]? = some (.cells cs t (0, 0)) :=
  (Moved.of_grown hg (S := fun k => v6.ownBlock = some k) (fun _ e => e)).heap hk ht

theorem info_run : (Tryd.prog.info? 24).map (fun i => (i.zero.map (fun z => z.cells.size), i.size, i.bytes)) = some (some 2, 2, 16) := by kernel_rfl
theorem info_run_ex : ∃ i0 z0, Tryd.prog.info? 24 = some i0 ∧ i0.zero = some z0 ∧ z0.cells.size = 2 ∧ i0.size = 2 ∧ i0.bytes = 16 := by
  have h := info_run
  cases hi : Tryd.prog.info? 24 with
  | none => rw [hi] at h; cases h
  | some i0 =>
    rw [hi] at h
    simp at h
    obtain ⟨⟨z, hz, h1⟩, h2, h3⟩ := h
    exact ⟨i0, z, rfl, hz, h1, h2, h3⟩
theorem info_head : (Tryd.prog.info? 26).map (fun i => (i.zero.map (fun z => z.cells.size), i.size, i.bytes)) = some (some 4, 4, 32) := by kernel_rfl
theorem info_head_ex : ∃ i0 z0, Tryd.prog.info? 26 = some i0 ∧ i0.zero = some z0 ∧ z0.cells.size = 4 ∧ i0.size = 4 ∧ i0.bytes = 32 := by
  have h := info_head
  cases hi : Tryd.prog.info? 26 with
  | none => rw [hi] at h; cases h
  | some i0 =>
    rw [hi] at h
    simp at h
    obtain ⟨⟨z, hz, h1⟩, h2, h3⟩ := h
    exact ⟨i0, z, rfl, hz, h1, h2, h3⟩
/-- One more in the row of run, at a step of a region that draws its order. -/
theorem step_wb6 {ops : Array Oper} {o : Oper} {a : Act} {K : Act → World → Prop} {Q : Exit → Act → World → Prop} {E : Prop} {w0 : World} {v6 v7 : Value} {m6 m7 : Nat} {l6 l7 : List Value} {W : World} (hW : WB w0 v6 v7 m6 m7 l6 l7 W) (hgd : o.guard = none) (s x : Operand)
    (ho : o.op = .call { callee := .builtin .append, args := #[s, x], argTypes := #[38, 38] }) (hs : a.eval s = v6) (ad : Addr) (news : List Value) (hx : a.eval x = .slice (some ad) 1 1) (hl : news.length = 2) (hnews : ∀ j u, news[j]? = some u → W.cell? (ad.add j) = some u) (h1 : ∀ u ∈ news, u.oneCell' = true) (hm : m6 ≤ 1000)
    (h : ∀ g cap W', WB w0 (.slice (some ⟨g, 0, none⟩) (m6 + 1) cap) v7 (m6 + 1) m7 (l6 ++ news) l7 W' → (∀ (k : Nat) (cs : Array Value) (t : TypeId), W.heap[k]? = some (.cells cs t (0, 0)) → (t ≠ 24 ∨ v6.ownBlock ≠ some k) → W'.heap[k]? = some (.cells cs t (0, 0))) → K (a.put o.dst (.slice (some ⟨g, 0, none⟩) (m6 + 1) cap)) W') :
    if Region.wanted o (yielded ops a.tmps) = true then Oper.wp Tryd.prog o a W K Q else E := by
  obtain ⟨i0, z0, hi, hz, hzs, his, hib⟩ := info_run_ex
  refine step_append_lies W hgd s x 38 ho w0.heap.size 24 i0 z0 2 16 Tryd.underlying38 hi hz his hib hzs (by omega) v6 m6 l6 hs hW.o6 ad 1 1 news hx (by rw [hl]) hnews h1 (by omega) (by unfold maxLen; omega) (by omega) hW.b.size _ rfl ?_
  intro g cap W' hown hgrow _ _
  exact h g cap W' (WB.app6 hW hown hgrow) (fun k cs t hk ht => far_row hgrow hk (ht.elim (fun ht => own_far hW.o6 hk ht) id))
/-- One more in the row of head, at a step of a region that draws its order. -/
theorem step_wb7 {ops : Array Oper} {o : Oper} {a : Act} {K : Act → World → Prop} {Q : Exit → Act → World → Prop} {E : Prop} {w0 : World} {v6 v7 : Value} {m6 m7 : Nat} {l6 l7 : List Value} {W : World} (hW : WB w0 v6 v7 m6 m7 l6 l7 W) (hgd : o.guard = none) (s x : Operand)
    (ho : o.op = .call { callee := .builtin .append, args := #[s, x], argTypes := #[37, 37] }) (hs : a.eval s = v7) (ad : Addr) (news : List Value) (hx : a.eval x = .slice (some ad) 1 1) (hl : news.length = 4) (hnews : ∀ j u, news[j]? = some u → W.cell? (ad.add j) = some u) (h1 : ∀ u ∈ news, u.oneCell' = true) (hm : m7 ≤ 1000)
    (h : ∀ g cap W', WB w0 v6 (.slice (some ⟨g, 0, none⟩) (m7 + 1) cap) m6 (m7 + 1) l6 (l7 ++ news) W' → (∀ (k : Nat) (cs : Array Value) (t : TypeId), W.heap[k]? = some (.cells cs t (0, 0)) → (t ≠ 26 ∨ v7.ownBlock ≠ some k) → W'.heap[k]? = some (.cells cs t (0, 0))) → K (a.put o.dst (.slice (some ⟨g, 0, none⟩) (m7 + 1) cap)) W') :
    if Region.wanted o (yielded ops a.tmps) = true then Oper.wp Tryd.prog o a W K Q else E := by
  obtain ⟨i0, z0, hi, hz, hzs, his, hib⟩ := info_head_ex
  refine step_append_lies W hgd s x 37 ho w0.heap.size 26 i0 z0 4 32 Tryd.underlying37 hi hz his hib hzs (by omega) v7 m7 l7 hs hW.o7 ad 1 1 news hx (by rw [hl]) hnews h1 (by omega) (by unfold maxLen; omega) (by omega) hW.b.size _ rfl ?_
  intro g cap W' hown hgrow _ _
  exact h g cap W' (WB.app7 hW hown hgrow) (fun k cs t hk ht => far_row hgrow hk (ht.elim (fun ht => own_far hW.o7 hk ht) id))

/-! ### The rows read back -/
theorem runCells_at : ∀ (rs : List (Int × Int)) (i : Nat), i < rs.length → (runCells rs)[i * 2]? = some (.int .i64 (rs.getD i (0, 0)).1) ∧ (runCells rs)[i * 2 + 1]? = some (.int .i64 (rs.getD i (0, 0)).2)
  | [], i, h => by simp at h
  | (f, k) :: r, 0, _ => ⟨rfl, rfl⟩
  | (f, k) :: r, i + 1, h => by
    have ih := runCells_at r i (by simpa using h)
    have e : runCells ((f, k) :: r) = .int .i64 f :: .int .i64 k :: runCells r := rfl
    rw [e, show (i + 1) * 2 = i * 2 + 1 + 1 by omega]
    simpa using ih
theorem headCells_at : ∀ (gs : List (Bool × Int × Int)) (i : Nat), i < gs.length → (headCells gs)[i * 4]? = some (.bool (gs.getD i (false, 0, 0)).1) ∧ (headCells gs)[i * 4 + 1]? = some (.int .i64 (gs.getD i (false, 0, 0)).2.1) ∧ (headCells gs)[i * 4 + 2]? = some (.int .i64 0) ∧ (headCells gs)[i * 4 + 3]? = some (.int .i64 (gs.getD i (false, 0, 0)).2.2)
  | [], i, h => by simp at h
  | (f, k, n) :: r, 0, _ => ⟨rfl, rfl, rfl, rfl⟩
  | (f, k, n) :: r, i + 1, h => by
    have ih := headCells_at r i (by simpa using h)
    have e : headCells ((f, k, n) :: r) = .bool f :: .int .i64 k :: .int .i64 0 :: .int .i64 n :: headCells r := rfl
    rw [e, show (i + 1) * 4 = i * 4 + 1 + 1 + 1 + 1 by omega]
    simpa using ih
theorem own_cell {w : World} {B : Nat} {t : TypeId} {size : Nat} {a : Option Addr} {n c : Nat} {xs : List Value} (h : w.ownsRow B t size (.slice a n c) n xs) (hn : 0 < n) : ∃ g, a = some ⟨g, 0, none⟩ ∧ B ≤ g ∧ (∀ j, j < n * size → w.cell? ⟨g, j, none⟩ = xs[j]?) ∧ ∃ cur, w.heap[g]? = some (.cells cur t (0, 0)) := by
  have h' := h
  rcases h.2 with ⟨_, h0⟩ | ⟨g, cap, cur, hs, hB, hg, _⟩
  · omega
  · cases hs
    exact ⟨g, rfl, hB, fun j hj => h'.cellAt j hj, cur, hg⟩
theorem runs_of_own {w : World} {B : Nat} {a : Option Addr} {n c : Nat} {rs : List (Int × Int)} (h : w.ownsRow B 24 2 (.slice a n c) n (runCells rs)) (hl : rs.length = n) : Runs w a rs := by
  by_cases hn : 0 < n
  · obtain ⟨g, rfl, _, hc, _⟩ := own_cell h hn
    refine .inr ⟨g, 0, rfl, fun i hi => ?_⟩
    have := runCells_at rs i hi
    rw [Nat.zero_add, hc _ (by omega), hc _ (by omega)]
    exact this
  · exact .inl (List.length_eq_zero_iff.1 (by omega))
theorem heads_of_own {w : World} {B : Nat} {a : Option Addr} {n c : Nat} {gs : List (Bool × Int × Int)} (h : w.ownsRow B 26 4 (.slice a n c) n (headCells gs)) (hl : gs.length = n) : Heads w a (gs.map fun g => (g.1, g.2.1, 0, g.2.2)) := by
  by_cases hn : 0 < n
  · obtain ⟨g, rfl, _, hc, _⟩ := own_cell h hn
    refine .inr ⟨g, 0, rfl, fun i hi => ?_⟩
    simp at hi
    have := headCells_at gs i hi
    rw [Nat.zero_add, hc _ (by omega), hc _ (by omega), hc _ (by omega), hc _ (by omega)]
    simpa [hi] using this
  · exact .inl (by simp; exact List.length_eq_zero_iff.1 (by omega))

/-- The law's own two rows, and a memory. -/
structure WM (w0 : World) (v6 v7 : Value) (m6 m7 : Nat) (l6 l7 : List Value) (b g : Nat) (xs : List Int) (W : World) : Prop where
  wb : WB w0 v6 v7 m6 m7 l6 l7 W
  m : MemAt W b g xs
  lo : w0.heap.size ≤ g
theorem WM.below {w0 : World} {v6 v7 : Value} {m6 m7 : Nat} {l6 l7 : List Value} {b g : Nat} {xs : List Int} {W W' : World} (h : WM w0 v6 v7 m6 m7 l6 l7 b g xs W) (hb : Below W.heap.size W W') : WM w0 v6 v7 m6 m7 l6 l7 b g xs W' :=
  ⟨h.wb.below hb, h.m.later hb, h.lo⟩
theorem WM.put {w0 : World} {v6 v7 : Value} {m6 m7 : Nat} {l6 l7 : List Value} {b g : Nat} {xs xs' : List Int} {W W' : World} (h : WM w0 v6 v7 m6 m7 l6 l7 b g xs W) (hg : W.grownBy W' (some g)) (hm' : MemAt W' b g xs') : WM w0 v6 v7 m6 m7 l6 l7 b g xs' W' := by
  have hm : Moved (fun k => k = g) W W' := .of_grown hg (fun k e => by cases e; rfl)
  refine ⟨⟨hm.below h.wb.b h.wb.b.size (fun q e => by subst e; exact h.lo), hm.owns h.wb.o6 (fun k hk e => ?_), hm.owns h.wb.o7 (fun k hk e => ?_)⟩, hm', h.lo⟩
  · subst e; exact owns_ne h.wb.o6 h.m.2.1 (by simp) hk
  · subst e; exact owns_ne h.wb.o7 h.m.2.1 (by simp) hk

/-! ### The objects read back -/
theorem back_all (gap : Nat) (gs : List (Bool × Int × Int)) (h : ∀ g ∈ gs, GOk g) (hl : gs.length ≤ 20) (hgap : gap ≤ 255) : objE (gAll gap gs) [[1, 0]] (gRuns gap gs) = 0 := by
  refine objE_all fun j f k hj => ?_
  obtain ⟨j', g, hg, e⟩ := gRuns_mem gap gs (f, k) (List.mem_of_getElem? hj)
  simp only [Prod.mk.injEq] at e
  obtain ⟨rfl, rfl⟩ := e
  exact (back_at gap gs h hl hgap j' g hg _ rfl).2.1
/-- What a row's object is, cell by cell. -/
theorem back_obj {gap : Nat} {gs : List (Bool × Int × Int)} (h : ∀ g ∈ gs, GOk g) (hl : gs.length ≤ 20) (hgap : gap ≤ 255) {w : World} {a : Option Addr} (hO : Objs (gAll gap gs) [[1, 0]] w a ((gRuns gap gs).map fun p => thA p.1))
    {q : Nat} {x : Bool} {k : Int} {n : Nat} (hq : gs[q]? = some (x, k, (n : Int))) {p : Nat} (hp : gap + gOff (gs.take q) = p) :
    ∃ (b off : Nat) (y1 y2 : Option Addr) (c1 c2 : Nat), a = some ⟨b, off, none⟩ ∧ w.cell? ⟨b, off + q * 8, none⟩ = some (.int .i64 ((p : Int) + 1)) ∧ w.cell? ⟨b, off + q * 8 + 1, none⟩ = some (.int .i64 0) ∧ w.cell? ⟨b, off + q * 8 + 2, none⟩ = some (.bool x) ∧ w.cell? ⟨b, off + q * 8 + 3, none⟩ = some (.int .i64 k) ∧
      w.cell? ⟨b, off + q * 8 + 4, none⟩ = some (.int .i64 0) ∧ w.cell? ⟨b, off + q * 8 + 5, none⟩ = some (.int .i64 n) ∧ w.cell? ⟨b, off + q * 8 + 6, none⟩ = some (.slice y1 n c1) ∧ w.cell? ⟨b, off + q * 8 + 7, none⟩ = some (.slice y2 n c2) ∧ Reads .u64 w y2 (List.replicate n 0) := by
  have hlt : q < gs.length := (List.getElem?_eq_some_iff.1 hq).1
  obtain ⟨t1, t2, t3, t4, t5, t6, t7, t8, t9⟩ := back_at gap gs h hl hgap q _ hq (p : Int) (by rw [← hp])
  rcases hO with e | ⟨b, off, rfl, hc⟩
  · rw [List.map_eq_nil_iff] at e
    have := gRuns_len gap gs
    rw [e] at this
    simp at this
    omega
  · obtain ⟨y1, y2, c1, c2, h1, h2, h3⟩ := hc q (by rw [List.length_map, gRuns_len]; exact hlt)
    have e : ((gRuns gap gs).map fun p => thA p.1).getD q 0 = (p : Int) + 1 := by
      have := gRuns_at gap gs q _ hq
      rw [hp] at this
      simp [this, t1]
    rw [e] at h1 h2 h3
    simp only [objCells, onI, t3, if_pos, t4, t5, t6, t7, t8, t9, Int.toNat_natCast, List.length_replicate] at h1
    rw [t9] at h3
    simp only [Int.toNat_natCast] at h3
    exact ⟨b, off, y1, y2, c1, c2, rfl, h1 0 _ rfl, h1 1 _ rfl, h1 2 _ rfl, h1 3 _ rfl, h1 4 _ rfl, h1 5 _ rfl, h1 6 _ rfl, h1 7 _ rfl, h3⟩
end Go.Proofs.YtojcdljpgginjaaDoor
