/-
  Contracts of functions of the program, laid together.
-/
import Derived.Test.YtcenagpkfimkbaaGreatDoorTopSlotsM13
import Derived.Test.YtcenagpkfimkbaaGreatDoorTopSlotsM15
import Derived.Deep.AppendLies
namespace Go.Proofs.YtcenagpkfimkbaaGreatDoor
open Go Go.RowKit

def runCells (rs : List (Int × Int)) : List Value := rs.flatMap fun p => [.int .i64 p.1, .int .i64 p.2]
theorem runCells_snoc (rs : List (Int × Int)) (f k : Int) : runCells (rs ++ [(f, k)]) = runCells rs ++ [.int .i64 f, .int .i64 k] := by simp [runCells]
theorem runCells_len (rs : List (Int × Int)) : (runCells rs).length = rs.length * 2 := by
  induction rs with
  | nil => rfl
  | cons p r ih =>
    have e : runCells (p :: r) = .int .i64 p.1 :: .int .i64 p.2 :: runCells r := rfl
    rw [e, List.length_cons, List.length_cons, List.length_cons, ih]
    omega
theorem runCells_at : ∀ (rs : List (Int × Int)) (i : Nat), i < rs.length → (runCells rs)[i * 2]? = some (.int .i64 (rs.getD i (0, 0)).1) ∧ (runCells rs)[i * 2 + 1]? = some (.int .i64 (rs.getD i (0, 0)).2)
  | [], i, h => by simp at h
  | (f, k) :: r, 0, _ => ⟨rfl, rfl⟩
  | (f, k) :: r, i + 1, h => by
    have ih := runCells_at r i (by simpa using h)
    have e : runCells ((f, k) :: r) = .int .i64 f :: .int .i64 k :: runCells r := rfl
    rw [e, show (i + 1) * 2 = i * 2 + 1 + 1 by omega]
    simpa using ih
theorem runCells_one (rs : List (Int × Int)) : ∀ u ∈ runCells rs, u.oneCell' = true := by
  intro u hu
  simp only [runCells, List.mem_flatMap] at hu
  obtain ⟨p, _, hu⟩ := hu
  simp at hu
  rcases hu with rfl | rfl <;> rfl
theorem info_run : (Tryz.prog.info? 160).map (fun i => (i.zero.map (fun z => z.cells.size), i.size, i.bytes)) = some (some 2, 2, 16) := by kernel_rfl
theorem info_run_ex : ∃ i0 z0, Tryz.prog.info? 160 = some i0 ∧ i0.zero = some z0 ∧ z0.cells.size = 2 ∧ i0.size = 2 ∧ i0.bytes = 16 := by
  have h := info_run
  cases hi : Tryz.prog.info? 160 with
  | none => rw [hi] at h; cases h
  | some i0 =>
    rw [hi] at h
    simp at h
    obtain ⟨⟨z, hz, h1⟩, h2, h3⟩ := h
    exact ⟨i0, z, rfl, hz, h1, h2, h3⟩
def OwnRuns (w : World) (v : Value) (rs : List (Int × Int)) : Prop := w.ownsRow 0 160 2 v rs.length (runCells rs)
theorem OwnRuns.moved {w w' : World} {v : Value} {rs : List (Int × Int)} {T : Nat → Prop} (h : OwnRuns w v rs) (hm : Moved T w w') (ht : ∀ k, v.ownBlock = some k → ¬ T k) : OwnRuns w' v rs := hm.owns h ht
theorem OwnRuns.block {w : World} {v : Value} {rs : List (Int × Int)} (h : OwnRuns w v rs) {k : Nat} (hk : v.ownBlock = some k) : ∃ cs, w.heap[k]? = some (.cells cs 160 (0, 0)) := by
  rcases h.2 with ⟨rfl, _⟩ | ⟨g, cap, cur, rfl, _, hg, _⟩
  · simp [Value.ownBlock] at hk
  · obtain rfl : g = k := by simpa [Value.ownBlock] using hk
    exact ⟨cur, hg⟩
theorem OwnRuns.shape {w : World} {v : Value} {rs : List (Int × Int)} (h : OwnRuns w v rs) : ∃ a c, v = .slice a rs.length c ∧ rs.length ≤ c ∧ (a = none → rs = [] ∧ c = 0) ∧ ∀ q, a = some q → ∃ g, q = ⟨g, 0, none⟩ ∧ v.ownBlock = some g := by
  rcases h.2 with ⟨rfl, h0⟩ | ⟨g, cap, cur, rfl, _, hg, hn, _⟩
  · exact ⟨none, 0, by rw [h0], by omega, fun _ => ⟨List.length_eq_zero_iff.1 h0, rfl⟩, (fun q e => by cases e)⟩
  · exact ⟨some ⟨g, 0, none⟩, cap, rfl, hn, (fun e => by cases e), fun q e => ⟨g, by cases e; rfl, rfl⟩⟩
def RunsR (w : World) (a : Option Addr) (rs : List (Int × Int)) : Prop :=
  rs = [] ∨ ∃ b off, a = some ⟨b, off, none⟩ ∧ ∀ i, i < rs.length → w.cell? ⟨b, off + i * 2, none⟩ = some (.int .i64 (rs.getD i (0, 0)).1) ∧ w.cell? ⟨b, off + i * 2 + 1, none⟩ = some (.int .i64 (rs.getD i (0, 0)).2)
theorem OwnRuns.reads {w : World} {a : Option Addr} {n c : Nat} {rs : List (Int × Int)} (h : OwnRuns w (.slice a n c) rs) : RunsR w a rs := by
  rcases h.2 with ⟨e, h0⟩ | ⟨g, cap, cur, e, _, hg, hn, hcm, hcs, ht⟩
  · exact .inl (List.length_eq_zero_iff.1 h0)
  · cases e
    refine .inr ⟨g, 0, rfl, fun i hi => ?_⟩
    have h1 := runCells_at rs i hi
    have hc : ∀ j, j < rs.length * 2 → cur[j]? = (runCells rs)[j]? := fun j hj => by
      rw [← ht]
      simp [hj]
    rw [Nat.zero_add, heap_cell hg, heap_cell hg, hc _ (by omega), hc _ (by omega)]
    exact h1
theorem RunsR.cells {w : World} {ad : Addr} {rs : List (Int × Int)} (h : RunsR w (some ad) rs) : ∀ j u, (runCells rs)[j]? = some u → w.cell? (ad.add j) = some u := by
  intro j u hu
  have hj : j < rs.length * 2 := by
    have := (List.getElem?_eq_some_iff.1 hu).1
    rwa [runCells_len] at this
  rcases h with rfl | ⟨b, off, ha, hc⟩
  · simp at hj
  · cases ha
    have := hc (j / 2) (by omega)
    have h2 := runCells_at rs (j / 2) (by omega)
    rw [addr_add_none]
    rcases Nat.mod_two_eq_zero_or_one j with e | e
    · have e1 : j / 2 * 2 = j := by omega
      rw [e1] at this h2
      rw [this.1, ← h2.1, hu]
    · have e1 : j / 2 * 2 + 1 = j := by omega
      rw [Nat.add_assoc, e1] at this
      rw [e1] at h2
      rw [this.2, ← h2.2, hu]

def RetRuns (rs : List (Int × Int)) (w : World) (e : Ending) (w' : World) : Prop :=
  ∃ v, e = .returned v ∧ Below w.heap.size w w' ∧ OwnRuns w' v rs ∧ ∀ k, v.ownBlock = some k → w.heap.size ≤ k

set_option maxRecDepth 100000 in
theorem CloneR_any (a : Option Addr) (rs : List (Int × Int)) (cap : Nat) (w : World) (h : RunsR w a rs) (hn : rs.length ≤ 1000000) (h0 : a = none → rs = [] ∧ cap = 0) :
    Calls Tryz.prog 135 #[.slice a rs.length cap] w (RetRuns rs w) := by
  rcases a with _ | ad
  · obtain ⟨rfl, rfl⟩ := h0 rfl
    have hq := fun w => Lib.run_eql_slice_nil (P := Tryz.prog) w 51 160 none 0 0 0 0 Tryz.underlying51
    go_enter Tryz.func135, Tryz.ntmps135
    go_wp2
    go_ret
    exact ⟨_, rfl, Below.refl _ _, World.ownsRow_nil _ _ _ _, by simp [Value.ownBlock]⟩
  · obtain ⟨i0, z0, hi, hz, hzs, his, hib⟩ := info_run_ex
    have hcs := Lib.hid (h.cells)
    have hq := fun w => Lib.run_eql_slice_nil (P := Tryz.prog) w 51 160 (some ad) rs.length cap 0 0 Tryz.underlying51
    have HI := Lib.hid (And.intro hi (And.intro hz (And.intro hzs (And.intro his hib))))
    clear hi hz hzs his hib
    go_enter Tryz.func135, Tryz.ntmps135
    go_wp2_with (at_builtin; refine wpList_append_own _ rfl _ _ 51 rfl w.heap.size 160 i0 z0 2 16 Tryz.underlying51 HI.out.1 HI.out.2.1 HI.out.2.2.2.1 HI.out.2.2.2.2 HI.out.2.2.1 (by decide) _ _ _ rfl (World.ownsRow_made w #[] 0 (Nat.le_refl _) (by decide) rfl) ad rs.length cap (runCells rs) rfl ?c0 ?c1 ?c2 ?c3 ?c4 ?c5 ?_)
    case c0 => exact runCells_len rs
    case c1 => exact fun j u hj => (cell_alloc_old _ (hcs.out j u hj))
    case c2 => exact runCells_one rs
    case c3 => unfold maxLen; omega
    case c4 => omega
    case c5 => simp
    · intro v' w1 hown' hgrow _
      go_wp2
      go_ret
      have ho : w1.ownsRow w.heap.size 160 2 v' rs.length (runCells rs) := by simpa using hown'
      refine ⟨_, rfl, ?_, ?_, fun k hk => (ho.lt k hk).1⟩
      · exact ((Below.refl _ _).alloc (Nat.le_refl _) _).grown hgrow (by simp) (fun k e => by simp [Value.ownBlock] at e; omega)
      · refine ⟨ho.1, ho.2.imp_right ?_⟩
        rintro ⟨g, cap', cur, e, _, rest⟩
        exact ⟨g, cap', cur, e, Nat.zero_le _, rest⟩

structure ArenaAt (w : World) (ab plb pb : Nat) (pg us : Int) (vr vt : Value) (rs ts : List (Int × Int)) : Prop where
  blk : w.heap[ab]? = some (.cells #[.pointer (some ⟨pb, 0, none⟩), .pointer (some ⟨plb, 0, none⟩), vr, vt] 224 (0, 0))
  plan : PlanAt w plb pg us
  runs : OwnRuns w vr rs
  things : OwnRuns w vt ts
  ne : ∀ k, vr.ownBlock = some k → vt.ownBlock ≠ some k
section
variable {w w' : World} {ab plb pb : Nat} {pg us : Int} {vr vt : Value} {rs ts : List (Int × Int)}
theorem ArenaAt.moved {T : Nat → Prop} (h : ArenaAt w ab plb pb pg us vr vt rs ts) (hm : Moved T w w') (h1 : ¬ T ab) (h2 : ¬ T plb) (h3 : ∀ k, vr.ownBlock = some k → ¬ T k) (h4 : ∀ k, vt.ownBlock = some k → ¬ T k) : ArenaAt w' ab plb pb pg us vr vt rs ts :=
  ⟨hm.heap h.blk h1, h.plan.moved hm h2, h.runs.moved hm h3, h.things.moved hm h4, h.ne⟩
theorem ArenaAt.later (h : ArenaAt w ab plb pb pg us vr vt rs ts) (hb : Below w.heap.size w w') : ArenaAt w' ab plb pb pg us vr vt rs ts :=
  h.moved (Moved.of_below hb (fun _ => False)) id id (fun _ _ => id) (fun _ _ => id)
theorem ArenaAt.apart (h : ArenaAt w ab plb pb pg us vr vt rs ts) : ab ≠ plb ∧ vr.ownBlock ≠ some ab ∧ vr.ownBlock ≠ some plb ∧ vt.ownBlock ≠ some ab ∧ vt.ownBlock ≠ some plb := by
  refine ⟨heap_ne h.blk h.plan.1 (by simp), fun e => ?_, fun e => ?_, fun e => ?_, fun e => ?_⟩
  · obtain ⟨_, hc⟩ := h.runs.block e; exact heap_ne h.blk hc (by simp) rfl
  · obtain ⟨_, hc⟩ := h.runs.block e; exact heap_ne h.plan.1 hc (by simp) rfl
  · obtain ⟨_, hc⟩ := h.things.block e; exact heap_ne h.blk hc (by simp) rfl
  · obtain ⟨_, hc⟩ := h.things.block e; exact heap_ne h.plan.1 hc (by simp) rfl
end
def ArenaP (ab plb pb : Nat) (pg us : Int) (rs ts : List (Int × Int)) : HP := fun w S => ∃ vr vt, ArenaAt w ab plb pb pg us vr vt rs ts ∧ ∀ k, S k ↔ k = ab ∨ k = plb ∨ vr.ownBlock = some k ∨ vt.ownBlock = some k
theorem ArenaP.ok (ab plb pb : Nat) (pg us : Int) (rs ts : List (Int × Int)) : (ArenaP ab plb pb pg us rs ts).Ok := by
  constructor
  · rintro w w' S T ⟨vr, vt, h, hs⟩ hm hd
    exact ⟨vr, vt, h.moved hm (hd _ ((hs _).2 (by simp))) (hd _ ((hs _).2 (by simp))) (fun k e => hd _ ((hs _).2 (by simp [e]))) (fun k e => hd _ ((hs _).2 (by simp [e]))), hs⟩
  · rintro w S ⟨vr, vt, h, hs⟩ k hk
    rcases (hs k).1 hk with rfl | rfl | e | e
    · exact heap_lt h.blk
    · exact heap_lt h.plan.1
    · obtain ⟨_, hc⟩ := h.runs.block e; exact heap_lt hc
    · obtain ⟨_, hc⟩ := h.things.block e; exact heap_lt hc

theorem arNew_any (pb : Nat) (w : World) (hN : Nw w) :
    Calls Tryz.prog 104 #[.pointer (some ⟨pb, 0, none⟩)] w fun e w' => ∃ ab plb, e = .returned (.pointer (some ⟨ab, 0, none⟩)) ∧ Below w.heap.size w w' ∧ ArenaAt w' ab plb pb (-1) 16 (.slice none 0 0) (.slice none 0 0) [] [] ∧ w.heap.size ≤ ab ∧ w.heap.size ≤ plb := by
  have hp := plNew_any w hN
  clear hN
  go_enter Tryz.func104, Tryz.ntmps104
  go_wp2_with fail
  refine hp.mono ?_
  rintro e w1 ⟨rfl, hb1, hp1⟩
  have HP := Lib.hid (And.intro hb1 hp1)
  clear hp hb1 hp1
  go_wp2
  go_ret
  have hb2 : Below w1.heap.size w1 (w1.alloc (.cells #[.pointer (some ⟨pb, 0, none⟩), .pointer (some ⟨w.heap.size, 0, none⟩), .slice none 0 0, .slice none 0 0] 224)) := (Below.refl _ _).alloc (Nat.le_refl _) _
  exact ⟨_, _, rfl, HP.out.1.trans (hb2.mono HP.out.1.size), ⟨heap_alloc_eq _ _, HP.out.2.later hb2, World.ownsRow_nil _ _ _ _, World.ownsRow_nil _ _ _ _, by simp [Value.ownBlock]⟩, HP.out.1.size, Nat.le_refl _⟩

theorem arRuns_any {w : World} {ab plb pb : Nat} {pg us : Int} {vr vt : Value} {rs ts : List (Int × Int)} (h : ArenaAt w ab plb pb pg us vr vt rs ts) (hn : rs.length ≤ 1000000) :
    Calls Tryz.prog 110 #[.pointer (some ⟨ab, 0, none⟩)] w (RetRuns rs w) := by
  obtain ⟨a, c, rfl, _, h0, hs⟩ := h.runs.shape
  have c2 := heap_cell h.blk 2
  simp at c2
  have hC := CloneR_any a rs c w h.runs.reads hn h0
  clear h hs h0
  go_enter Tryz.func110, Tryz.ntmps110
  go_wp2_with fail
  refine hC.mono ?_
  rintro e w1 ⟨v, rfl, hb, ho, hl⟩
  have HO := Lib.hid (And.intro hb (And.intro ho hl))
  obtain ⟨a', c', rfl, _⟩ := ho.shape
  clear hC hb ho hl
  go_wp2
  go_ret
  exact ⟨_, rfl, HO.out⟩
theorem arThings_any {w : World} {ab plb pb : Nat} {pg us : Int} {vr vt : Value} {rs ts : List (Int × Int)} (h : ArenaAt w ab plb pb pg us vr vt rs ts) (hn : ts.length ≤ 1000000) :
    Calls Tryz.prog 87 #[.pointer (some ⟨ab, 0, none⟩)] w (RetRuns ts w) := by
  obtain ⟨a, c, rfl, _, h0, hs⟩ := h.things.shape
  have c2 := heap_cell h.blk 3
  simp at c2
  have hC := CloneR_any a ts c w h.things.reads hn h0
  clear h hs h0
  go_enter Tryz.func87, Tryz.ntmps87
  go_wp2_with fail
  refine hC.mono ?_
  rintro e w1 ⟨v, rfl, hb, ho, hl⟩
  have HO := Lib.hid (And.intro hb (And.intro ho hl))
  obtain ⟨a', c', rfl, _⟩ := ho.shape
  clear hC hb ho hl
  go_wp2
  go_ret
  exact ⟨_, rfl, HO.out⟩
end Go.Proofs.YtcenagpkfimkbaaGreatDoor
namespace Go.Proofs.YtcenagpkfimkbaaGreatDoor
open Go Go.RowKit

theorem wpList_runs_app {W : World} {ops : Array Oper} {rest : List Oper} {o : Oper} {a : Act} {Q : Exit → Act → World → Prop} (hgd : o.guard = none) (s x : Operand)
    (ho : o.op = .call { callee := .builtin .append, args := #[s, x], argTypes := #[51, 51] }) (v : Value) (rs : List (Int × Int)) (hs : a.eval s = v) (hown : OwnRuns W v rs) (ad : Addr) (f k : Int) (hx : a.eval x = .slice (some ad) 1 1)
    (h0 : ∀ j u, [Value.int .i64 f, Value.int .i64 k][j]? = some u → W.cell? (ad.add j) = some u) (hm : rs.length ≤ 1000000)
    (h : ∀ g cap W', OwnRuns W' (.slice (some ⟨g, 0, none⟩) (rs.length + 1) cap) (rs ++ [(f, k)]) → Moved (fun q => v.ownBlock = some q) W W' → (v.ownBlock = some g ∨ W.heap.size ≤ g) → wpList Tryz.prog ops Q rest (a.put o.dst (.slice (some ⟨g, 0, none⟩) (rs.length + 1) cap)) W') : wpList Tryz.prog ops Q (o :: rest) a W := by
  obtain ⟨i0, z0, hi, hz, hzs, his, hib⟩ := info_run_ex
  refine wpList_append_lies W hgd s x 51 ho 0 160 i0 z0 2 16 Tryz.underlying51 hi hz his hib hzs (by omega) v rs.length (runCells rs) hs hown ad 1 1 [.int .i64 f, .int .i64 k] hx rfl h0 (by simp [Value.oneCell']) (by omega) (by unfold maxLen; omega) (by omega) (Nat.zero_le _) _ rfl ?_
  intro g cap W' hown' hgrow hat _
  refine h g cap W' ?_ (.of_grown hgrow (fun k e => e)) (hat.imp_right (fun e => Nat.le_of_eq e.symm))
  unfold OwnRuns
  rw [runCells_snoc, List.length_append]
  exact hown'

def arPage (gs : List Bool) (pg us s : Int) : Nat := (findM gs (plN pg us s)).getD 0
def arE (gs : List Bool) (pg us s : Int) : Int := if plE s ≠ 0 then 1 else if plN pg us s ≤ 0 then 0 else if (findM gs (plN pg us s)).isSome = true then 0 else 3
def arA (gs : List Bool) (pg us s : Int) : Int := if arE gs pg us s = 0 then plA pg us s (arPage gs pg us s) else 0
def arR (gs : List Bool) (pg us s : Int) (rs : List (Int × Int)) : List (Int × Int) := if arE gs pg us s = 0 ∧ 0 < plN pg us s then rs ++ [((arPage gs pg us s : Int), plN pg us s)] else rs
def arT (gs : List Bool) (pg us s : Int) (ts : List (Int × Int)) : List (Int × Int) := if arE gs pg us s = 0 then ts ++ [(arA gs pg us s, s)] else ts
def arP (gs : List Bool) (pg us s : Int) : Int := if arE gs pg us s = 0 then plP pg us s (arPage gs pg us s) else pg
def arU (gs : List Bool) (pg us s : Int) : Int := if arE gs pg us s = 0 then plU pg us s else us
def arS (gs : List Bool) (pg us s : Int) : List Bool := if arE gs pg us s = 0 then grS gs (plN pg us s) else gs
def arM (gs : List Bool) (ms : List Int) (pg us s : Int) : List Int := if arE gs pg us s = 0 then grM gs ms (plN pg us s) else ms

def arB (ab plb rw mw : Nat) (vr vt : Value) : Nat → Prop := fun q => q = ab ∨ q = plb ∨ vr.ownBlock = some q ∨ vt.ownBlock = some q ∨ q = rw ∨ q = mw
structure AInv (w0 : World) (ab plb pb rb rw mb mw : Nat) (vr0 vt0 : Value) (W : World) (pg us : Int) (vr vt : Value) (rs ts : List (Int × Int)) (gs : List Bool) (ms : List Int) : Prop where
  a : ArenaAt W ab plb pb pg us vr vt rs ts
  p : PagesAt W pb rb rw mb mw gs ms
  mv : Moved (arB ab plb rw mw vr0 vt0) w0 W
  r : ∀ k, vr.ownBlock = some k → vr0.ownBlock = some k ∨ w0.heap.size ≤ k
  t : ∀ k, vt.ownBlock = some k → vt0.ownBlock = some k ∨ w0.heap.size ≤ k
section
variable {w0 W W' : World} {ab plb pb rb rw mb mw : Nat} {vr0 vt0 vr vt : Value} {pg us : Int} {rs ts : List (Int × Int)} {gs : List Bool} {ms : List Int}
theorem AInv.start (ha : ArenaAt w0 ab plb pb pg us vr vt rs ts) (hp : PagesAt w0 pb rb rw mb mw gs ms) : AInv w0 ab plb pb rb rw mb mw vr vt w0 pg us vr vt rs ts gs ms :=
  ⟨ha, hp, Moved.refl _ _, fun _ e => .inl e, fun _ e => .inl e⟩
theorem apart_pages (ha : ArenaAt W ab plb pb pg us vr vt rs ts) (hp : PagesAt W pb rb rw mb mw gs ms) (k : Nat) (hk : k = ab ∨ k = plb ∨ vr.ownBlock = some k ∨ vt.ownBlock = some k) : k ≠ pb ∧ k ≠ rb ∧ k ≠ rw ∧ k ≠ mb ∧ k ≠ mw := by
  obtain ⟨⟨_, r1⟩, ⟨_, r2⟩⟩ := hp.row.blocks
  have key : ∀ {cs : Array Value} {t : TypeId}, W.heap[k]? = some (.cells cs t (0, 0)) → t ≠ 179 → t ≠ 231 → t ≠ 34 → t ≠ 233 → k ≠ pb ∧ k ≠ rb ∧ k ≠ rw ∧ k ≠ mb ∧ k ≠ mw := by
    intro cs t h h1 h2 h3 h4
    exact ⟨heap_ne h hp.blk (fun e => by simp only [Obj.cells.injEq] at e; exact h1 e.2.1), heap_ne h r1 (fun e => by simp only [Obj.cells.injEq] at e; exact h2 e.2.1), heap_ne h r2 (fun e => by simp only [Obj.cells.injEq] at e; exact h3 e.2.1), heap_ne h hp.mem.1 (fun e => by simp only [Obj.cells.injEq] at e; exact h4 e.2.1), heap_ne h hp.mem.2.1 (fun e => by simp only [Obj.cells.injEq] at e; exact h3 e.2.1)⟩
  rcases hk with rfl | rfl | e | e
  · exact key ha.blk (by decide) (by decide) (by decide) (by decide)
  · exact key ha.plan.1 (by decide) (by decide) (by decide) (by decide)
  · obtain ⟨_, hc⟩ := ha.runs.block e; exact key hc (by decide) (by decide) (by decide) (by decide)
  · obtain ⟨_, hc⟩ := ha.things.block e; exact key hc (by decide) (by decide) (by decide) (by decide)
theorem AInv.later (h : AInv w0 ab plb pb rb rw mb mw vr0 vt0 W pg us vr vt rs ts gs ms) (hb : Below W.heap.size W W') : AInv w0 ab plb pb rb rw mb mw vr0 vt0 W' pg us vr vt rs ts gs ms :=
  ⟨h.a.later hb, h.p.later hb, h.mv.trans (Moved.of_below hb (arB ab plb rw mw vr0 vt0)) (fun _ e => .inl e), h.r, h.t⟩
theorem AInv.grant (h : AInv w0 ab plb pb rb rw mb mw vr0 vt0 W pg us vr vt rs ts gs ms) {gs' : List Bool} {ms' : List Int} (hm : Moved (fun q => q = rw ∨ q = mw) W W') (hp : PagesAt W' pb rb rw mb mw gs' ms') : AInv w0 ab plb pb rb rw mb mw vr0 vt0 W' pg us vr vt rs ts gs' ms' := by
  have hx := apart_pages h.a h.p
  refine ⟨h.a.moved hm (fun e => ?_) (fun e => ?_) (fun k hk e => ?_) (fun k hk e => ?_), hp, h.mv.trans hm (fun q e => .inl ?_), h.r, h.t⟩
  · have := hx ab (.inl rfl); omega
  · have := hx plb (.inr (.inl rfl)); omega
  · have := hx k (.inr (.inr (.inl hk))); omega
  · have := hx k (.inr (.inr (.inr hk))); omega
  · unfold arB; rcases e with e | e <;> simp [e]
theorem AInv.place (h : AInv w0 ab plb pb rb rw mb mw vr0 vt0 W pg us vr vt rs ts gs ms) {pg' us' : Int} (hm : Moved (fun q => q = plb) W W') (hp : PlanAt W' plb pg' us') : AInv w0 ab plb pb rb rw mb mw vr0 vt0 W' pg' us' vr vt rs ts gs ms := by
  have hx := apart_pages h.a h.p plb (.inr (.inl rfl))
  have ha := h.a.apart
  refine ⟨⟨hm.heap h.a.blk ha.1, hp, h.a.runs.moved hm (fun k hk e => ha.2.2.1 (by rw [hk, e])), h.a.things.moved hm (fun k hk e => ha.2.2.2.2 (by rw [hk, e])), h.a.ne⟩, h.p.moved hm (fun e => hx.1 e.symm) (fun e => hx.2.1 e.symm) (fun e => hx.2.2.1 e.symm) (fun e => hx.2.2.2.1 e.symm) (fun e => hx.2.2.2.2 e.symm), h.mv.trans hm (fun q e => .inl (.inr (.inl e))), h.r, h.t⟩
theorem AInv.runs (h : AInv w0 ab plb pb rb rw mb mw vr0 vt0 W pg us vr vt rs ts gs ms) (o : Obj) {g n cap : Nat} {rs' : List (Int × Int)} (ho : OwnRuns W' (.slice (some ⟨g, 0, none⟩) n cap) rs') (hm : Moved (fun q => vr.ownBlock = some q) (W.alloc o) W') (hg : vr.ownBlock = some g ∨ (W.alloc o).heap.size ≤ g) :
    AInv w0 ab plb pb rb rw mb mw vr0 vt0 (W'.setCell ⟨ab, 2, none⟩ (.slice (some ⟨g, 0, none⟩) n cap)) pg us (.slice (some ⟨g, 0, none⟩) n cap) vt rs' ts gs ms := by
  have hm1 : Moved (fun q => vr.ownBlock = some q) W W' := (Moved.alloc _ W o).trans hm (fun _ e => .inl e)
  have hx := apart_pages h.a h.p
  have ha := h.a.apart
  have hblk := hm1.heap h.a.blk ha.2.1
  have hplan := h.a.plan.moved hm1 ha.2.2.1
  have hth := h.a.things.moved hm1 (fun k hk e => h.a.ne k e hk)
  have hpg := h.p.moved hm1 (fun e => (hx _ (.inr (.inr (.inl e)))).1 rfl) (fun e => (hx _ (.inr (.inr (.inl e)))).2.1 rfl) (fun e => (hx _ (.inr (.inr (.inl e)))).2.2.1 rfl) (fun e => (hx _ (.inr (.inr (.inl e)))).2.2.2.1 rfl) (fun e => (hx _ (.inr (.inr (.inl e)))).2.2.2.2 rfl)
  have hs : Moved (fun q => q = ab) W' (W'.setCell ⟨ab, 2, none⟩ (.slice (some ⟨g, 0, none⟩) n cap)) := Moved.of_set (S := fun q => q = ab) W' ab 2 _ rfl
  have hxa := hx ab (.inl rfl)
  have hgw : ∀ {k : Nat}, k < W.heap.size → vr.ownBlock ≠ some k → g ≠ k := by
    intro k hk hne e
    subst e
    rcases hg with hg | hg
    · exact hne hg
    · simp at hg; omega
  have hlt : ∀ k, vt.ownBlock = some k → k < W.heap.size := fun k hk => by obtain ⟨_, hc⟩ := h.a.things.block hk; exact heap_lt hc
  refine ⟨⟨by simpa using heap_set hblk 2 (.slice (some ⟨g, 0, none⟩) n cap), hplan.moved hs (fun e => ha.1 e.symm), ho.moved hs (fun k hk e => ?_), hth.moved hs (fun k hk e => ha.2.2.2.1 (by rw [hk, e])), fun k hk e => ?_⟩, hpg.moved hs (fun e => hxa.1 e.symm) (fun e => hxa.2.1 e.symm) (fun e => hxa.2.2.1 e.symm) (fun e => hxa.2.2.2.1 e.symm) (fun e => hxa.2.2.2.2 e.symm), (h.mv.trans hm1 (fun q e => ?_)).trans hs (fun q e => .inl (.inl e)), fun k hk => ?_, h.t⟩
  · simp [Value.ownBlock] at hk
    exact hgw (heap_lt h.a.blk) ha.2.1 (by omega)
  · simp [Value.ownBlock] at hk
    subst hk
    rcases hg with hg | hg
    · exact h.a.ne _ hg e
    · have := hlt _ e; simp at hg; omega
  · rcases h.r q e with e | e
    · exact .inl (.inr (.inr (.inl e)))
    · exact .inr e
  · simp [Value.ownBlock] at hk
    subst hk
    rcases hg with hg | hg
    · exact h.r _ hg
    · have := h.mv.size; simp at hg; exact .inr (by omega)
theorem AInv.things (h : AInv w0 ab plb pb rb rw mb mw vr0 vt0 W pg us vr vt rs ts gs ms) (o : Obj) {g n cap : Nat} {ts' : List (Int × Int)} (ho : OwnRuns W' (.slice (some ⟨g, 0, none⟩) n cap) ts') (hm : Moved (fun q => vt.ownBlock = some q) (W.alloc o) W') (hg : vt.ownBlock = some g ∨ (W.alloc o).heap.size ≤ g) :
    AInv w0 ab plb pb rb rw mb mw vr0 vt0 (W'.setCell ⟨ab, 3, none⟩ (.slice (some ⟨g, 0, none⟩) n cap)) pg us vr (.slice (some ⟨g, 0, none⟩) n cap) rs ts' gs ms := by
  have hm1 : Moved (fun q => vt.ownBlock = some q) W W' := (Moved.alloc _ W o).trans hm (fun _ e => .inl e)
  have hx := apart_pages h.a h.p
  have ha := h.a.apart
  have hblk := hm1.heap h.a.blk ha.2.2.2.1
  have hplan := h.a.plan.moved hm1 ha.2.2.2.2
  have hrn := h.a.runs.moved hm1 (fun k hk e => h.a.ne k hk e)
  have hpg := h.p.moved hm1 (fun e => (hx _ (.inr (.inr (.inr e)))).1 rfl) (fun e => (hx _ (.inr (.inr (.inr e)))).2.1 rfl) (fun e => (hx _ (.inr (.inr (.inr e)))).2.2.1 rfl) (fun e => (hx _ (.inr (.inr (.inr e)))).2.2.2.1 rfl) (fun e => (hx _ (.inr (.inr (.inr e)))).2.2.2.2 rfl)
  have hs : Moved (fun q => q = ab) W' (W'.setCell ⟨ab, 3, none⟩ (.slice (some ⟨g, 0, none⟩) n cap)) := Moved.of_set (S := fun q => q = ab) W' ab 3 _ rfl
  have hxa := hx ab (.inl rfl)
  have hgw : ∀ {k : Nat}, k < W.heap.size → vt.ownBlock ≠ some k → g ≠ k := by
    intro k hk hne e
    subst e
    rcases hg with hg | hg
    · exact hne hg
    · simp at hg; omega
  have hlt : ∀ k, vr.ownBlock = some k → k < W.heap.size := fun k hk => by obtain ⟨_, hc⟩ := h.a.runs.block hk; exact heap_lt hc
  refine ⟨⟨by simpa using heap_set hblk 3 (.slice (some ⟨g, 0, none⟩) n cap), hplan.moved hs (fun e => ha.1 e.symm), hrn.moved hs (fun k hk e => ha.2.1 (by rw [hk, e])), ho.moved hs (fun k hk e => ?_), fun k hk e => ?_⟩, hpg.moved hs (fun e => hxa.1 e.symm) (fun e => hxa.2.1 e.symm) (fun e => hxa.2.2.1 e.symm) (fun e => hxa.2.2.2.1 e.symm) (fun e => hxa.2.2.2.2 e.symm), (h.mv.trans hm1 (fun q e => ?_)).trans hs (fun q e => .inl (.inl e)), h.r, fun k hk => ?_⟩
  · simp [Value.ownBlock] at hk
    exact hgw (heap_lt h.a.blk) ha.2.2.2.1 (by omega)
  · simp [Value.ownBlock] at e
    subst e
    rcases hg with hg | hg
    · exact h.a.ne _ hk hg
    · have := hlt _ hk; simp at hg; omega
  · rcases h.t q e with e | e
    · exact .inl (.inr (.inr (.inr (.inl e))))
    · exact .inr e
  · simp [Value.ownBlock] at hk
    subst hk
    rcases hg with hg | hg
    · exact h.t _ hg
    · have := h.mv.size; simp at hg; exact .inr (by omega)
end
end Go.Proofs.YtcenagpkfimkbaaGreatDoor
namespace Go.Proofs.YtcenagpkfimkbaaGreatDoor
open Go Go.RowKit

def ArRet (w0 : World) (ab plb pb rb rw mb mw : Nat) (vr vt : Value) (pg us : Int) (rs ts : List (Int × Int)) (gs : List Bool) (ms : List Int) (s : Int) (e : Ending) (w' : World) : Prop :=
  e = .returned (.tuple #[.int .i64 (arA gs pg us s), .int .i64 (arE gs pg us s)]) ∧ ∃ vr' vt', AInv w0 ab plb pb rb rw mb mw vr vt w' (arP gs pg us s) (arU gs pg us s) vr' vt' (arR gs pg us s rs) (arT gs pg us s ts) (arS gs pg us s) (arM gs ms pg us s)

theorem cells_at {w : World} {n : Nat} {cs : List Value} {t : TypeId} (h : w.heap.size = n) : ∀ j u, cs[j]? = some u → (w.alloc (.cells cs.toArray t)).cell? ((⟨n, 0, none⟩ : Addr).add j) = some u := by
  subst h
  intro j u h
  rw [addr_add_none, Nat.zero_add, heap_cell (heap_alloc_eq _ _)]
  simpa using h

theorem ar_fail {w0 w' : World} {ab plb pb rb rw mb mw : Nat} {vr vt : Value} {pg us : Int} {rs ts : List (Int × Int)} {gs : List Bool} {ms : List Int} {s E : Int} (h : arE gs pg us s = E) (hE : E ≠ 0) (hI : AInv w0 ab plb pb rb rw mb mw vr vt w' pg us vr vt rs ts gs ms) :
    ArRet w0 ab plb pb rb rw mb mw vr vt pg us rs ts gs ms s (.returned (.tuple #[.int .i64 0, .int .i64 E])) w' := by
  have e4 : arE gs pg us s ≠ 0 := by rw [h]; exact hE
  refine ⟨by rw [arA, if_neg e4, h], vr, vt, ?_⟩
  rw [arP, arU, arR, arT, arS, arM, if_neg e4, if_neg e4, if_neg (fun h => e4 h.1), if_neg e4, if_neg e4, if_neg e4]
  exact hI
theorem ar_ok {w0 w' : World} {ab plb pb rb rw mb mw : Nat} {vr vt vr' vt' : Value} {pg us : Int} {rs ts rs' : List (Int × Int)} {gs gs' : List Bool} {ms ms' : List Int} {s A : Int} {page : Nat} (h : arE gs pg us s = 0) (hp : arPage gs pg us s = page) (hA : plA pg us s page = A) (hr : (if 0 < plN pg us s then rs ++ [((page : Int), plN pg us s)] else rs) = rs') (hs : grS gs (plN pg us s) = gs') (hm : grM gs ms (plN pg us s) = ms')
    (hI : AInv w0 ab plb pb rb rw mb mw vr vt w' (plP pg us s page) (plU pg us s) vr' vt' rs' (ts ++ [(A, s)]) gs' ms') :
    ArRet w0 ab plb pb rb rw mb mw vr vt pg us rs ts gs ms s (.returned (.tuple #[.int .i64 A, .int .i64 0])) w' := by
  have hA' : arA gs pg us s = A := by rw [arA, if_pos h, hp, hA]
  refine ⟨by rw [hA', h], vr', vt', ?_⟩
  have f3 : arR gs pg us s rs = rs' := by
    rw [arR, hp, ← hr]
    by_cases hn : 0 < plN pg us s
    · rw [if_pos ⟨h, hn⟩, if_pos hn]
    · rw [if_neg (fun e => hn e.2), if_neg hn]
  rw [f3, arP, arU, arT, arS, arM, if_pos h, if_pos h, if_pos h, if_pos h, if_pos h, hA', hp, hs, hm]
  exact hI

set_option maxRecDepth 100000 in
set_option maxHeartbeats 2000000 in
theorem arAlloc_any {w : World} {ab plb pb rb rw mb mw : Nat} {vr vt : Value} {pg us : Int} {rs ts : List (Int × Int)} {gs : List Bool} {ms : List Int} (ha : ArenaAt w ab plb pb pg us vr vt rs ts) (hp : PagesAt w pb rb rw mb mw gs ms) (hN : Nw w) (hNw : ∀ k, arB ab plb rw mw vr vt k → k ≠ 0) (hg0 : -1 ≤ pg) (hg1 : pg ≤ 1024) (hr : rs.length ≤ 100000) (ht : ts.length ≤ 100000) (s : Int) :
    Calls Tryz.prog 162 #[.pointer (some ⟨ab, 0, none⟩), .int .i64 s] w (ArRet w ab plb pb rb rw mb mw vr vt pg us rs ts gs ms s) := by
  have H := Lib.hid (AInv.start ha hp)
  have c1 := heap_cell ha.blk 1
  simp at c1
  have hD := plNeed_any ha.plan hN s
  have HN := Lib.hid (And.intro hN hNw)
  obtain ⟨ra, rc, rfl, _⟩ := ha.runs.shape
  obtain ⟨ta, tc, rfl, _⟩ := ha.things.shape
  clear ha hp hN hNw
  by_cases hE : plE s ≠ 0
  · have e1 : plE s = 1 := by unfold plE at hE ⊢; split <;> simp_all
    have e2 : Hid (arE gs pg us s = 1) := Lib.hid (by rw [arE, if_pos hE])
    rw [e1] at hD
    obtain ⟨n, hn⟩ : ∃ n, plN pg us s = n := ⟨_, rfl⟩
    rw [hn] at hD
    clear hE e1 hn
    go_enter Tryz.func162, Tryz.ntmps162
    go_wp2_with fail
    refine hD.mono ?_
    rintro e w1 ⟨rfl, q, hq⟩
    have HQ := Lib.hid hq
    clear hD hq c1
    go_wp2
    go_ret2
    exact ar_fail e2.out (by decide) (H.out.later (by rw [HQ.out]; exact ⟨rfl, rfl, rfl, Nat.le_refl _, fun _ _ => rfl⟩))
  · have hE : plE s = 0 := by simpa using hE
    have hs : 1 ≤ s ∧ s ≤ 16384 := by unfold plE at hE; split at hE <;> omega
    rw [hE] at hD
    obtain ⟨n, hn⟩ : ∃ n, plN pg us s = n := ⟨_, rfl⟩
    rw [hn] at hD
    have hn0 : 0 ≤ n ∧ n ≤ 1024 := by
      rw [← hn]; unfold plN
      split
      · omega
      · split
        · omega
        · split <;> omega
    by_cases hz : n ≤ 0
    · obtain rfl : n = 0 := by omega
      have e2 : Hid (arE gs pg us s = 0) := Lib.hid (by rw [arE, if_neg (by rw [hE]; decide), if_pos (by omega)])
      have e3 : Hid (arPage gs pg us s = 0) := Lib.hid (by rw [arPage, hn, findM_neg (by omega)]; rfl)
      have e5 : Hid (grS gs (plN pg us s) = gs ∧ grM gs ms (plN pg us s) = ms ∧ (if 0 < plN pg us s then rs ++ [(((0 : Nat) : Int), plN pg us s)] else rs) = rs) := Lib.hid (by
        rw [hn, grS, grM, findM_neg (by omega)]
        exact ⟨rfl, rfl, if_neg (by omega)⟩)
      clear hE hn hn0 hz
      go_enter Tryz.func162, Tryz.ntmps162
      go_wp2_with fail
      refine hD.mono ?_
      rintro e w1 ⟨rfl, q, hq⟩
      have hb : Below w.heap.size w w1 := by rw [hq]; exact ⟨rfl, rfl, rfl, Nat.le_refl _, fun _ _ => rfl⟩
      have HI := Lib.hid (H.out.later hb)
      have hP := plPlace_any HI.out.a.plan (HN.out.1.later hb) hg0 hg1 s 0 hs.1 hs.2 (by omega) (by omega)
      obtain ⟨A, hA⟩ : ∃ A, plA pg us s 0 = A := ⟨_, rfl⟩
      rw [hA] at hP
      have HA := Lib.hid hA
      clear hD hq c1 hb hA
      have c1 := heap_cell HI.out.a.blk 1
      simp at c1
      go_wp2_with fail
      refine hP.mono ?_
      rintro e w2 ⟨rfl, hm2, hp2⟩
      have HJ := Lib.hid (HI.out.place hm2 hp2)
      have c3 := heap_cell HJ.out.a.blk 3
      simp at c3
      clear hP hm2 hp2 c1
      go_wp2_with (at_builtin; refine wpList_runs_app rfl _ _ rfl (.slice ta ts.length tc) ts rfl (HJ.out.a.things.moved (Moved.alloc (fun _ => False) w2 (.cells #[.int .i64 A, .int .i64 s] 160)) (fun _ _ => id)) ⟨w2.heap.size, 0, none⟩ A s rfl (cells_at rfl) (by omega) ?_; intro g cap w3 hown hm hg; have hb3 := hm.heap (heap_alloc_lt HJ.out.a.blk (.cells #[.int .i64 A, .int .i64 s] 160)) HJ.out.a.apart.2.2.2.1; have c4 := heap_cell hb3 3; have d4 := heap_free hb3 3; simp at c4; have HK := Lib.hid (HJ.out.things (.cells #[.int .i64 A, .int .i64 s] 160) hown hm hg); clear hown hm hg hb3 c3)
      go_ret2
      exact ar_ok e2.out e3.out HA.out e5.out.2.2 e5.out.1 e5.out.2.1 HK.out
    · have hpos : 0 < n := by omega
      have hn9 : n ≤ 1024 := hn0.2
      have hi := H.out.p.hi
      have hlo := H.out.p.lo
      cases hf : findM gs n with
      | none =>
        have e2 : Hid (arE gs pg us s = 3) := Lib.hid (by rw [arE, if_neg (by rw [hE]; decide), if_neg (by omega), hn, hf]; rfl)
        have hgE : grE gs n = 3 := by rw [grE, if_neg (by omega), hf]; rfl
        have hgS : grS gs n = gs := by rw [grS, hf]
        have hgM : grM gs ms n = ms := by rw [grM, hf]
        clear hE hn hn0 hz
        go_enter Tryz.func162, Tryz.ntmps162
        go_wp2_with fail
        refine hD.mono ?_
        rintro e w1 ⟨rfl, q, hq⟩
        have hb : Below w.heap.size w w1 := by rw [hq]; exact ⟨rfl, rfl, rfl, Nat.le_refl _, fun _ _ => rfl⟩
        have HI := Lib.hid (H.out.later hb)
        have hG := pGrant_any HI.out.p n (by omega)
        rw [hgE, hgS, hgM, hf] at hG
        simp only [Option.getD_none] at hG
        have c0 := heap_cell HI.out.a.blk 0
        simp at c0
        clear hD hq c1 hb hf hgE hgS hgM hi hlo
        go_wp2_with fail
        refine hG.mono ?_
        rintro e w2 ⟨rfl, hm2, hp2⟩
        have HJ := Lib.hid (HI.out.grant hm2 hp2)
        clear hG hm2 hp2 c0
        go_wp2
        go_ret2
        exact ar_fail e2.out (by decide) HJ.out
      | some page =>
        have hle := (findM_le hf).2
        have e2 : Hid (arE gs pg us s = 0) := Lib.hid (by rw [arE, if_neg (by rw [hE]; decide), if_neg (by omega), hn, hf]; rfl)
        have e3 : Hid (arPage gs pg us s = page) := Lib.hid (by rw [arPage, hn, hf]; rfl)
        have e5 : Hid ((if 0 < plN pg us s then rs ++ [((page : Int), plN pg us s)] else rs) = rs ++ [((page : Int), n)] ∧ plN pg us s = n) := Lib.hid (by rw [hn, if_pos hpos]; exact ⟨rfl, rfl⟩)
        have hgE : grE gs n = 0 := by rw [grE, if_neg (by omega), hf]; rfl
        have hg1' : (page : Int) ≤ 1024 := by omega
        clear hE hn hn0 hz hle hi hlo
        go_enter Tryz.func162, Tryz.ntmps162
        go_wp2_with fail
        refine hD.mono ?_
        rintro e w1 ⟨rfl, q, hq⟩
        have hb : Below w.heap.size w w1 := by rw [hq]; exact ⟨rfl, rfl, rfl, Nat.le_refl _, fun _ _ => rfl⟩
        have HI := Lib.hid (H.out.later hb)
        have hG := pGrant_any HI.out.p n (by omega)
        rw [hgE, hf] at hG
        simp only [Option.getD_some] at hG
        have hmq := Moved.of_below hb (arB ab plb rw mw (.slice ra rs.length rc) (.slice ta ts.length tc))
        have HMQ := Lib.hid hmq
        have c0 := heap_cell HI.out.a.blk 0
        simp at c0
        clear hD hq c1 hb hf hgE hmq
        go_wp2_with fail
        refine hG.mono ?_
        rintro e w2 ⟨rfl, hm2, hp2⟩
        have HJ := Lib.hid (HI.out.grant hm2 hp2)
        have c2 := heap_cell HJ.out.a.blk 2
        simp at c2
        clear hG hm2 hp2 c0
        go_wp2_with (at_builtin; refine wpList_runs_app rfl _ _ rfl (.slice ra rs.length rc) rs rfl (HJ.out.a.runs.moved (Moved.alloc (fun _ => False) w2 (.cells #[.int .i64 page, .int .i64 n] 160)) (fun _ _ => id)) ⟨w2.heap.size, 0, none⟩ page n rfl (cells_at rfl) (by omega) ?_; intro gr cr w3 hown hm hg; have hb3 := hm.heap (heap_alloc_lt HJ.out.a.blk (.cells #[.int .i64 page, .int .i64 n] 160)) HJ.out.a.apart.2.1; have c4 := heap_cell hb3 2; have d4 := heap_free hb3 2; simp at c4; have HK := Lib.hid (HJ.out.runs (.cells #[.int .i64 page, .int .i64 n] 160) hown hm hg); have hb4 := HK.out.a.blk; have c5 := heap_cell hb4 1; simp at c5; clear hown hm hg hb3 hb4 c2)
        obtain ⟨w4, hw4⟩ : ∃ x, w3.setCell ⟨ab, 2, none⟩ (.slice (some ⟨gr, 0, none⟩) (rs.length + 1) cr) = x := ⟨_, rfl⟩
        rw [hw4] at HK c5 ⊢
        have hN4 : Nw w4 := HN.out.1.moved HK.out.mv (fun e => HN.out.2 _ e rfl)
        have hP := plPlace_any HK.out.a.plan hN4 hg0 hg1 s page hs.1 hs.2 (by omega) hg1'
        obtain ⟨A, hA⟩ : ∃ A, plA pg us s page = A := ⟨_, rfl⟩
        rw [hA] at hP
        have HA := Lib.hid hA
        clear hw4 hN4 c4 d4 hA
        refine hP.mono ?_
        rintro e w5 ⟨rfl, hm5, hp5⟩
        have HL := Lib.hid (HK.out.place hm5 hp5)
        have c6 := heap_cell HL.out.a.blk 3
        simp at c6
        clear hP hm5 hp5 c5
        go_wp2_with (at_builtin; refine wpList_runs_app rfl _ _ rfl (.slice ta ts.length tc) ts rfl (HL.out.a.things.moved (Moved.alloc (fun _ => False) w5 (.cells #[.int .i64 A, .int .i64 s] 160)) (fun _ _ => id)) ⟨w5.heap.size, 0, none⟩ A s rfl (cells_at rfl) (by omega) ?_; intro g cap w6 hown hm hg; have hb6 := hm.heap (heap_alloc_lt HL.out.a.blk (.cells #[.int .i64 A, .int .i64 s] 160)) HL.out.a.apart.2.2.2.1; have c7 := heap_cell hb6 3; have d7 := heap_free hb6 3; simp at c7; have HO := Lib.hid (HL.out.things (.cells #[.int .i64 A, .int .i64 s] 160) hown hm hg); clear hown hm hg hb6 c6)
        go_ret2
        exact ar_ok e2.out e3.out HA.out e5.out.1 (by rw [e5.out.2]) (by rw [e5.out.2]) HO.out
end Go.Proofs.YtcenagpkfimkbaaGreatDoor
