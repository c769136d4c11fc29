/-
  Contracts of functions of the program, laid together.
-/
import Derived.Test.YtcenagpkfimkbaaGreatDoorTopNamesM1
import Derived.Test.YtcenagpkfimkbaaGreatDoorTopNamesM3
import Derived.Test.YtcenagpkfimkbaaGreatDoorTopNamesM4
import Derived.Test.YtcenagpkfimkbaaGreatDoorTopNamesM5
import Derived.Shelf.Sort.Plain
import Derived.Maps.RangeWalk
import Derived.Sort.OwnSortedInts
import Derived.Shelf.Slices.In.SortNone
import Derived.WalkMore
import Derived.ArgAppend
import Derived.OwnWalkIn
import Derived.Laws.OwnMore
import Derived.RangeFuncNested
import Derived.Deep.AppendLies
/-
  desc.Kinds, and the document's: the kinds of an object's fields.
-/
namespace Go.Proofs.YtcenagpkfimkbaaGreatDoor
open Go Go.RowKit

def knE (ds : List (List Int)) (arr : Bool) (k t n : Int) : Int :=
  if arr = true then (if kindB k = true then (if 0 ≤ n ∧ n ≤ 4000 then 0 else 1) else 4)
  else (if 0 ≤ t ∧ t < ds.length then (if n = (ds.getD t.toNat []).length then 0 else 1) else 2)
def knL (ds : List (List Int)) (arr : Bool) (k t n : Int) : List Int :=
  if knE ds arr k t n = 0 then (if arr = true then List.replicate n.toNat k else ds.getD t.toNat []) else []
theorem knL_no {ds : List (List Int)} {arr : Bool} {k t n : Int} (h : knE ds arr k t n ≠ 0) : knL ds arr k t n = [] := by rw [knL, if_neg h]
theorem knL_length {ds : List (List Int)} {arr : Bool} {k t n : Int} (h : ∀ d ∈ ds, d.length ≤ 100) : (knL ds arr k t n).length ≤ 4000 := by
  unfold knL
  split
  · rename_i h0
    split
    · rename_i h1
      unfold knE at h0
      rw [if_pos h1] at h0
      split at h0
      · split at h0
        · simp; omega
        · omega
      · omega
    · rename_i h1
      unfold knE at h0
      rw [if_neg h1] at h0
      split at h0
      · rename_i h2
        have h3 : t.toNat < ds.length := by omega
        have := h (ds.getD t.toNat []) (by simp [h3])
        omega
      · omega
  · simp

/-- A row of kinds of its own comes back, and an error's number. -/
def RetKinds (L : List Int) (E : Int) (w : World) (e : Ending) (w' : World) : Prop :=
  ∃ v, e = .returned (.tuple #[v, .int .i64 E]) ∧ Below w.heap.size w w' ∧ w'.ownsRow w.heap.size 3 1 v L.length (L.map (Value.int .i64))
/-- A row of kinds comes back, and an error's number. -/
def RetKindsR (L : List Int) (E : Int) (w : World) (e : Ending) (w' : World) : Prop :=
  ∃ a c, e = .returned (.tuple #[.slice a L.length c, .int .i64 E]) ∧ Below w.heap.size w w' ∧ Reads .i64 w' a L ∧ (a = none → L = [] ∧ c = 0)

theorem owns_le {w : World} {B B' : Nat} {t : TypeId} {size n : Nat} {v : Value} {xs : List Value} (h : w.ownsRow B t size v n xs) (hb : B' ≤ B) : w.ownsRow B' t size v n xs :=
  ⟨h.1, h.2.elim .inl fun ⟨g, cap, cur, hv, hg, r⟩ => .inr ⟨g, cap, cur, hv, Nat.le_trans hb hg, r⟩⟩

set_option maxHeartbeats 2000000 in
theorem Kinds_any (a : Option Addr) (ds : List (List Int)) (c : Nat) (arr : Bool) (k t n : Int) (w : World) (hT : Tab w) (hD : Descs w a ds) (hd : ∀ d ∈ ds, d.length ≤ 100) (_hn : ds.length ≤ 9223372036854775807) :
    Calls Tryz.prog 138 #[.slice a ds.length c, .agg #[.bool arr, .int .i64 k, .int .i64 t, .int .i64 n]] w (RetKinds (knL ds arr k t n) (knE ds arr k t n) w) := by
  have hbo : Below w.heap.size w (w.alloc (.cells #[.bool arr, .int .i64 k, .int .i64 t, .int .i64 n] 85)) := (Below.refl _ _).alloc (Nat.le_refl _) _
  have HB := Lib.hid hbo
  clear hbo
  cases arr
  · clear hT
    rcases (show t < 0 ∨ (0 ≤ t ∧ ds.length ≤ t) ∨ (0 ≤ t ∧ t < ds.length) by omega) with h | ⟨h0, h⟩ | ⟨h0, h⟩
    · have e1 : knE ds false k t n = 2 := by rw [knE, if_neg (by simp), if_neg (by omega)]
      rw [knL_no (by omega), e1]
      clear hD e1
      go_enter Tryz.func138, Tryz.ntmps138
      go_wp2
      go_ret2
      exact ⟨_, rfl, HB.out, World.ownsRow_nil _ _ _ _⟩
    · have e1 : knE ds false k t n = 2 := by rw [knE, if_neg (by simp), if_neg (by omega)]
      rw [knL_no (by omega), e1]
      clear hD e1
      go_enter Tryz.func138, Tryz.ntmps138
      go_wp2
      go_ret2
      exact ⟨_, rfl, HB.out, World.ownsRow_nil _ _ _ _⟩
    · obtain ⟨t, rfl⟩ := Int.eq_ofNat_of_zero_le h0
      obtain ⟨b, off, fa, fc, d, rfl, hdt, hc, hr, hnil⟩ := hD.at_ t (by omega)
      have hdl := hd d (List.mem_of_getElem? hdt)
      have e0 : ds.getD (t : Int).toNat [] = d := by simp [hdt]
      have hc2 := cell_alloc_old (.cells #[.bool false, .int .i64 k, .int .i64 t, .int .i64 n] 85) hc
      have hr2 := hr.below HB.out
      by_cases hnd : n = d.length
      · have e1 : knE ds false k t n = 0 := by rw [knE, if_neg (by simp), if_pos (by omega), e0, if_pos hnd]
        have e2 : knL ds false k t n = d := by rw [knL, if_pos e1, if_neg (by simp), e0]
        rw [e1, e2]
        subst hnd
        have hb : ((d.length : Int) != (d.length : Int)) = false := by simp
        have hcl := fun m => Clone_int_any fa d fc _ (hr2.below (below_drewN (Below.refl _ _) m)) (by omega) hnil
        have HD := Lib.hid (And.intro hD hd)
        clear e1 e2 hD hd hdt e0 hr hr2 hc
        go_enter Tryz.func138, Tryz.ntmps138
        go_wp2
        go_quiet (fail)
        go_wp2_with fail
        refine (hcl _).mono ?_
        rintro e w1 ⟨v, rfl, hb1, ho⟩
        clear hcl
        go_wp2
        go_ret2
        exact ⟨_, rfl, (below_drewN HB.out _).trans (hb1.mono HB.out.size), owns_le ho HB.out.size⟩
      · have e1 : knE ds false k t n = 1 := by rw [knE, if_neg (by simp), if_pos (by omega), e0, if_neg hnd]
        rw [knL_no (by omega), e1]
        have hb : ((n : Int) != (d.length : Int)) = true := by simp [hnd]
        clear e1 hD hd hdt e0 hr hr2 hc hnil
        go_enter Tryz.func138, Tryz.ntmps138
        go_wp2
        go_quiet (fail)
        go_wp2
        go_ret2
        exact ⟨_, rfl, below_drewN HB.out _, World.ownsRow_nil _ _ _ _⟩
  · have hK := Kind_any k _ (hT.below hT.lt HB.out)
    clear hT hD
    cases hk : kindB k
    · have e1 : knE ds true k t n = 4 := by rw [knE, if_pos rfl, if_neg (by simp [hk])]
      rw [knL_no (by omega), e1]
      rw [hk] at hK
      clear e1 hk hd
      go_enter Tryz.func138, Tryz.ntmps138
      go_wp2_with (go_at_call 140; refine hK.mono ?_; rintro e w' ⟨rfl, rfl⟩)
      go_ret2
      exact ⟨_, rfl, HB.out, World.ownsRow_nil _ _ _ _⟩
    · rw [hk] at hK
      by_cases hr : 0 ≤ n ∧ n ≤ 4000
      · have e1 : knE ds true k t n = 0 := by rw [knE, if_pos rfl, if_pos hk, if_pos hr]
        have e2 : knL ds true k t n = List.replicate n.toNat k := by rw [knL, if_pos e1, if_pos rfl]
        rw [e1, e2]
        obtain ⟨h0, h1⟩ := hr
        obtain ⟨n, rfl⟩ := Int.eq_ofNat_of_zero_le h0
        have hbo2 : Below w.heap.size w ((w.alloc (.cells #[.bool true, .int .i64 k, .int .i64 t, .int .i64 n] 85)).alloc (.cells #[.int .i64 k] 3)) := HB.out.alloc HB.out.size _
        have HB2 := Lib.hid hbo2
        have hrep := Repeat_any (w.heap.size + 1) 0 1 k n ((w.alloc (.cells #[.bool true, .int .i64 k, .int .i64 t, .int .i64 n] 85)).alloc (.cells #[.int .i64 k] 3)) (by
          have := heap_alloc_eq (w.alloc (.cells #[.bool true, .int .i64 k, .int .i64 t, .int .i64 n] 85)) (.cells #[.int .i64 k] 3)
          rw [show (w.alloc (.cells #[.bool true, .int .i64 k, .int .i64 t, .int .i64 n] 85)).heap.size = w.heap.size + 1 by simp] at this
          rw [heap_cell this]
          rfl) (by omega)
        rw [Int.toNat_natCast]
        clear e1 e2 hk hd hbo2
        go_enter Tryz.func138, Tryz.ntmps138
        go_wp2_with (first | (go_at_call 140; refine hK.mono ?_; rintro e w' ⟨rfl, rfl⟩) | (go_at_call 179; refine hrep.mono ?_; rintro e w1 ⟨v, rfl, hb1, ho⟩))
        go_ret2
        exact ⟨_, rfl, HB2.out.trans (hb1.mono HB2.out.size), owns_le ho HB2.out.size⟩
      · have e1 : knE ds true k t n = 1 := by rw [knE, if_pos rfl, if_pos hk, if_neg hr]
        rw [knL_no (by omega), e1]
        clear e1 hk hd
        rcases (show n < 0 ∨ (¬ n < 0 ∧ 4000 < n) by omega) with h | ⟨h0, h⟩
        all_goals
          clear hr
          go_enter Tryz.func138, Tryz.ntmps138
          go_wp2_with (go_at_call 140; refine hK.mono ?_; rintro e w' ⟨rfl, rfl⟩)
          go_ret2
          exact ⟨_, rfl, HB.out, World.ownsRow_nil _ _ _ _⟩
end Go.Proofs.YtcenagpkfimkbaaGreatDoor
/-
  heap.Heap: what it is in the model: its parts beside each other.
-/
namespace Go.Proofs.YtcenagpkfimkbaaGreatDoor
open Go Go.RowKit

/-- The blocks of a heap. -/
structure HB where
  (hb pb rb rw mb mw ob om sb srb srw bb bm tb tm am cb cm gb gg fb : Nat)
  (ta : Option Addr)
  (tc : Nat)
/-- An arena: its blocks, its plan, what it took, its things. -/
structure AR where
  (ab plb : Nat)
  (pg us : Int)
  (rs ts : List (Int × Int))
/-- What a heap is. -/
structure HM where
  (gs : List Bool)
  (ms : List Int)
  (on : Nat)
  (ow : Nat → Int)
  (st : List Bool)
  (ds : List (List Int))
  (live : IM Unit)
  (last : Int)
  (par : IM Int)
  (ar : IM AR)
  (cnt : IM Int)
  (gl : List Int)
  (fr : List (List Int))

/-- One block, and what is in it. -/
def blockP (b : Nat) (o : Obj) : HP := fun w S => w.heap[b]? = some o ∧ ∀ k, S k ↔ k = b
theorem blockP.ok (b : Nat) (o : Obj) : (blockP b o).Ok := by
  constructor
  · rintro w w' S T ⟨h, hs⟩ hm hd
    exact ⟨hm.heap h (hd _ ((hs _).2 rfl)), hs⟩
  · rintro w S ⟨h, hs⟩ k hk
    rw [(hs k).1 hk]; exact heap_lt h
/-- A list of types, and its blocks. -/
def TypesP (a : Option Addr) (ds : List (List Int)) : HP := fun w S =>
  (ds = [] ∨ ∃ b off, a = some ⟨b, off, none⟩ ∧ S b ∧ ∀ i, i < ds.length → ∃ (fa : Option Addr) (c : Nat), w.cell? ⟨b, off + i, none⟩ = some (.slice fa (ds.getD i []).length c) ∧ Reads .i64 w fa (ds.getD i []) ∧ (fa = none → ds.getD i [] = [] ∧ c = 0) ∧ (∀ q, fa = some q → S q.block)) ∧ ∀ k, S k → k < w.heap.size
theorem TypesP.ok (a : Option Addr) (ds : List (List Int)) : (TypesP a ds).Ok := by
  constructor
  · rintro w w' S T ⟨h, hs⟩ hm hd
    refine ⟨?_, fun k hk => Nat.lt_of_lt_of_le (hs k hk) hm.size⟩
    rcases h with h | ⟨b, off, ha, hb, hc⟩
    · exact .inl h
    · refine .inr ⟨b, off, ha, hb, fun i hi => ?_⟩
      obtain ⟨fa, c, h1, h2, h3, h4⟩ := hc i hi
      exact ⟨fa, c, hm.cell h1 (hd b hb), hm.reads h2 (fun q hq => hd _ (h4 q hq)), h3, h4⟩
  · rintro w S ⟨h, hs⟩ k hk
    exact hs k hk
theorem TypesP.descs {a : Option Addr} {ds : List (List Int)} {w : World} {S : Nat → Prop} (h : TypesP a ds w S) : Descs w a ds := by
  rcases h.1 with h | ⟨b, off, ha, hb, hc⟩
  · exact .inl h
  · refine .inr ⟨b, off, ha, fun i hi => ?_⟩
    obtain ⟨fa, c, h1, h2, h3, h4⟩ := hc i hi
    exact ⟨fa, c, h1, h2, h3⟩
/-- A map of pointers to arenas. -/
def arMap (ar : IM AR) : IM Value := mapV (fun A => ptrV A.ab) ar
def MapP (b : Nat) (m : IM Value) : HP := fun w S => MapAt .i64 3 w b m ∧ ∀ k, S k ↔ k = b
theorem MapP.ok (b : Nat) (m : IM Value) : (MapP b m).Ok := by
  constructor
  · rintro w w' S T ⟨h, hs⟩ hm hd
    exact ⟨h.moved hm (hd _ ((hs _).2 rfl)), hs⟩
  · rintro w S ⟨h, hs⟩ k hk
    rw [(hs k).1 hk]; exact h.lt
/-- A stack of frames. -/
def FramesP (fb : Nat) (fr : List (List Int)) : HP := fun w S => StackAt w fb fr S
theorem FramesP.ok (fb : Nat) (fr : List (List Int)) : (FramesP fb fr).Ok :=
  ⟨fun h hm hd => h.moved hm hd, fun h k hk => by obtain ⟨sl, fr', h1, h2, h3, h4, h5, h6, h7, _⟩ := h; exact h7 k hk⟩
/-- The two tables of the program. -/
def TabsP (O0 O1 : Obj) : HP := fun w S => w.heap[0]? = some O0 ∧ w.heap[1]? = some O1 ∧ Tab w ∧ Nw w ∧ ∀ k, S k ↔ k = 0 ∨ k = 1
theorem Tab.moved {w w' : World} {T : Nat → Prop} (h : Tab w) (hm : Moved T w w') (ht : ¬ T 1) : Tab w' := fun i hi => hm.cell (h i hi) ht
theorem TabsP.ok (O0 O1 : Obj) : (TabsP O0 O1).Ok := by
  constructor
  · rintro w w' S T ⟨h0, h1, h2, h3, hs⟩ hm hd
    have d0 := hd _ ((hs 0).2 (.inl rfl))
    have d1 := hd _ ((hs 1).2 (.inr rfl))
    exact ⟨hm.heap h0 d0, hm.heap h1 d1, h2.moved hm d1, h3.moved hm d0, hs⟩
  · rintro w S ⟨h0, h1, h2, h3, hs⟩ k hk
    rcases (hs k).1 hk with rfl | rfl
    · exact heap_lt h0
    · exact heap_lt h1
/-- The arena of a number. -/
def arenaP (pb : Nat) : Option AR → HP
  | none => hemp
  | some A => ArenaP A.ab A.plb pb A.pg A.us A.rs A.ts
theorem arenaP.ok (pb : Nat) (x : Option AR) : (arenaP pb x).Ok := by
  cases x with
  | none => exact hemp_ok
  | some A => exact ArenaP.ok _ _ _ _ _ _ _

/-- The cells of a heap's block. -/
def heapObj (B : HB) (n : Nat) : Obj :=
  .cells #[.pointer (some ⟨B.pb, 0, none⟩), .pointer (some ⟨B.ob, 0, none⟩), .pointer (some ⟨B.sb, 0, none⟩), .slice B.ta n B.tc, .pointer (some ⟨B.bb, 0, none⟩), .pointer (some ⟨B.tb, 0, none⟩), .map (some B.am), .pointer (some ⟨B.cb, 0, none⟩), .pointer (some ⟨B.gb, 0, none⟩), .pointer (some ⟨B.fb, 0, none⟩)] 117 (0, 0)
/-- The parts of a heap, by numbers. -/
def heapP (B : HB) (H : HM) (O0 O1 : Obj) (i : Nat) : HP :=
  if i = 1 then blockP B.hb (heapObj B H.ds.length)
  else if i = 2 then PagesP B.pb B.rb B.rw B.mb B.mw H.gs H.ms
  else if i = 3 then OwnerP B.ob B.om H.on H.ow
  else if i = 4 then StartsP B.sb B.srb B.srw H.st
  else if i = 5 then TypesP B.ta H.ds
  else if i = 6 then BookP B.bb B.bm H.live H.last 64
  else if i = 7 then OneMapP 191 B.tb B.tm H.par
  else if i = 8 then MapP B.am (arMap H.ar)
  else if i = 9 then OneMapP 193 B.cb B.cm H.cnt
  else if i = 10 then GlobP B.gb B.gg H.gl
  else if i = 11 then FramesP B.fb H.fr
  else if i = 12 then TabsP O0 O1
  else if 20 < i then arenaP B.pb (lk H.ar ((i - 20 : Nat) : Int))
  else hemp
theorem ok_ite {c : Prop} [Decidable c] {p q : HP} (hp : p.Ok) (hq : q.Ok) : (if c then p else q).Ok := by
  by_cases h : c
  · rw [if_pos h]; exact hp
  · rw [if_neg h]; exact hq
theorem heapP_ok (B : HB) (H : HM) (O0 O1 : Obj) : ∀ i, (heapP B H O0 O1 i).Ok := fun _ =>
  ok_ite (blockP.ok _ _) (ok_ite (PagesP.ok _ _ _ _ _ _ _) (ok_ite (OwnerP.ok _ _ _ _) (ok_ite (StartsP.ok _ _ _ _) (ok_ite (TypesP.ok _ _) (ok_ite (BookP.ok _ _ _ _ _) (ok_ite (OneMapP.ok _ _ _ _) (ok_ite (MapP.ok _ _) (ok_ite (OneMapP.ok _ _ _ _) (ok_ite (GlobP.ok _ _ _) (ok_ite (FramesP.ok _ _) (ok_ite (TabsP.ok _ _) (ok_ite (arenaP.ok _ _) hemp_ok))))))))))))
/-- A heap. -/
def HeapSt (B : HB) (H : HM) (O0 O1 : Obj) : HP := Sep (heapP B H O0 O1)
theorem HeapSt.ok (B : HB) (H : HM) (O0 O1 : Obj) : (HeapSt B H O0 O1).Ok := Sep.ok (heapP_ok B H O0 O1)

theorem Sep.get {P : Nat → HP} {w : World} {S : Nat → Prop} (h : Sep P w S) (i : Nat) (hi : 0 < i) : ∃ S0, P i w S0 ∧ ∀ k, S0 k → S k := by
  obtain ⟨γ, h1, h2⟩ := h
  exact ⟨_, h2 i hi, fun k hk => (h1 k).2 (by omega)⟩
section
variable {B : HB} {H : HM} {O0 O1 : Obj} {w : World} {S : Nat → Prop}
theorem HeapSt.blk (h : HeapSt B H O0 O1 w S) : w.heap[B.hb]? = some (heapObj B H.ds.length) := by obtain ⟨_, h, _⟩ := Sep.get h 1 (by omega); exact h.1
theorem HeapSt.pages (h : HeapSt B H O0 O1 w S) : PagesAt w B.pb B.rb B.rw B.mb B.mw H.gs H.ms := by obtain ⟨_, h, _⟩ := Sep.get h 2 (by omega); exact h.1
theorem HeapSt.owner (h : HeapSt B H O0 O1 w S) : ∃ gm, OwnerAt w B.ob B.om gm H.on H.ow := by obtain ⟨_, ⟨gm, h, _⟩, _⟩ := Sep.get h 3 (by omega); exact ⟨gm, h⟩
theorem HeapSt.starts (h : HeapSt B H O0 O1 w S) : StartsAt w B.sb B.srb B.srw H.st := by obtain ⟨_, h, _⟩ := Sep.get h 4 (by omega); exact h.1
theorem HeapSt.types (h : HeapSt B H O0 O1 w S) : Descs w B.ta H.ds := by obtain ⟨_, h, _⟩ := Sep.get h 5 (by omega); exact TypesP.descs h
theorem HeapSt.book (h : HeapSt B H O0 O1 w S) : BookAt w B.bb B.bm H.live H.last 64 := by obtain ⟨_, h, _⟩ := Sep.get h 6 (by omega); exact h.1
theorem HeapSt.tree (h : HeapSt B H O0 O1 w S) : TreeAt w B.tb B.tm H.par := by obtain ⟨_, h, _⟩ := Sep.get h 7 (by omega); exact h.1
theorem HeapSt.arenas (h : HeapSt B H O0 O1 w S) : MapAt .i64 3 w B.am (arMap H.ar) := by obtain ⟨_, h, _⟩ := Sep.get h 8 (by omega); exact h.1
theorem HeapSt.counts (h : HeapSt B H O0 O1 w S) : TallyAt w B.cb B.cm H.cnt := by obtain ⟨_, h, _⟩ := Sep.get h 9 (by omega); exact h.1
theorem HeapSt.globs (h : HeapSt B H O0 O1 w S) : GlobAt w B.gb B.gg H.gl := by obtain ⟨_, h, _⟩ := Sep.get h 10 (by omega); exact h.1
theorem HeapSt.tabs (h : HeapSt B H O0 O1 w S) : Tab w ∧ Nw w := by obtain ⟨_, h, _⟩ := Sep.get h 12 (by omega); exact ⟨h.2.2.1, h.2.2.2.1⟩
theorem HeapSt.later {w' : World} (h : HeapSt B H O0 O1 w S) (hb : Below w.heap.size w w') : HeapSt B H O0 O1 w' S := (HeapSt.ok B H O0 O1).below h hb

/-- One part turned. -/
theorem HeapSt.step (h : HeapSt B H O0 O1 w S) (i : Nat) (hi : 0 < i) (H' : HM) (hH : upd (heapP B H O0 O1) i (heapP B H' O0 O1 i) = heapP B H' O0 O1) :
    ∃ S0, heapP B H O0 O1 i w S0 ∧ (∀ k, S0 k → S k) ∧ ∀ (w' : World) (S0' : Nat → Prop), heapP B H' O0 O1 i w' S0' → Grows S0 S0' w w' → ∃ S', HeapSt B H' O0 O1 w' S' ∧ Grows S S' w w' := by
  obtain ⟨S0, h0, hs, hc⟩ := Sep.open_ (heapP_ok B H O0 O1) h i hi
  refine ⟨S0, h0, hs, fun w' S0' hp hg => ?_⟩
  obtain ⟨S', h', hg'⟩ := hc w' S0' _ hp hg
  rw [hH] at h'
  exact ⟨S', h', hg'⟩
end
theorem upd_eq {P Q : Nat → HP} {i : Nat} (h : ∀ j, j ≠ i → P j = Q j) : upd P i (Q i) = Q := by
  funext j
  by_cases e : j = i
  · subst e; rw [upd_same]
  · rw [upd_ne _ _ e, h j e]
end Go.Proofs.YtcenagpkfimkbaaGreatDoor
/-
  heap.Heap: lives, Count, target, may, moved, SetGlobal.
-/
namespace Go.Proofs.YtcenagpkfimkbaaGreatDoor
open Go Go.RowKit

/-- What is small enough to be told. -/
structure Fine (H : HM) : Prop where
  l0 : 0 ≤ H.last
  l1 : H.last ≤ 1000000
  ll : H.live.length ≤ 1000000
  pl : H.par.length ≤ 1000000
  cl : H.cnt.length ≤ 1000000
  ct : Told H.cnt
  ob : ∀ p, 0 ≤ H.ow p ∧ H.ow p ≤ 1000000
  gv : ∀ i, 0 ≤ glV H.gl i ∧ glV H.gl i ≤ 18446744073709551615

def livesB (H : HM) (r : Int) : Bool := decide (r ≤ H.last) && (lk H.live r).isSome

set_option maxRecDepth 100000 in
theorem hlives_any {B : HB} {H : HM} {O0 O1 : Obj} {w : World} {S : Nat → Prop} (h : HeapSt B H O0 O1 w S) (hF : Fine H) (r : Int) (r0 : 0 ≤ r) (r1 : r ≤ 18446744073709551615) :
    Calls Tryz.prog 101 #[.pointer (some ⟨B.hb, 0, none⟩), .int .u64 r] w fun e w' => e = .returned (.tuple #[.int .i64 (IntKind.i64.wrap r), .bool (livesB H r)]) ∧ Below w.heap.size w w' := by
  have c4 := heap_cell h.blk 4
  simp at c4
  have hL := iLast_any h.book
  have l0 := hF.l0
  have l1 := hF.l1
  have hb := h.book
  obtain ⟨last, hlast⟩ : ∃ x, H.last = x := ⟨_, rfl⟩
  have e0 : Hid (livesB H r = (decide (r ≤ last) && (lk H.live r).isSome)) := Lib.hid (by rw [livesB, hlast])
  rw [hlast] at hL l0 l1 hb
  have hw : IntKind.u64.wrap last = last := by rw [IntKind.wrap_u64]; omega
  by_cases hr : r ≤ last
  · have hv := iLives_any hb r (by omega) (by omega)
    have y1 : IntKind.i64.wrap r = r := by rw [IntKind.wrap_i64]; omega
    have e1 : Hid (livesB H r = (lk H.live r).isSome) := Lib.hid (by rw [e0.out]; simp [hr])
    rw [y1]
    obtain ⟨b, hb'⟩ : ∃ b, (lk H.live r).isSome = b := ⟨_, rfl⟩
    rw [hb'] at hv e1
    clear h hF hb hlast hb' e0
    go_enter Tryz.func101, Tryz.ntmps101
    go_wp2_with fail
    refine hL.mono ?_
    rintro e w1 ⟨rfl, rfl⟩
    clear hL
    go_wp2_with fail
    refine hv.mono ?_
    rintro e w2 ⟨rfl, hb2⟩
    clear hv
    go_wp2
    go_ret2
    exact ⟨by rw [e1.out]; rfl, hb2⟩
  · have e1 : Hid (livesB H r = false) := Lib.hid (by rw [e0.out]; simp [hr])
    obtain ⟨y, hy⟩ : ∃ y, IntKind.i64.wrap r = y := ⟨_, rfl⟩
    rw [hy]
    clear h hF hb hlast e0
    go_enter Tryz.func101, Tryz.ntmps101
    go_wp2_with fail
    refine hL.mono ?_
    rintro e w1 ⟨rfl, rfl⟩
    clear hL
    go_wp2
    go_ret2
    exact ⟨by rw [e1.out]; rfl, Below.refl _ _⟩

def cntV (H : HM) (r : Int) : Int := if livesB H r = true then at0 H.cnt r else 0
def cntE (H : HM) (r : Int) : Int := if livesB H r = true then 0 else 2
theorem livesB_le {H : HM} {r : Int} (h : livesB H r = true) : r ≤ H.last ∧ (lk H.live r).isSome = true := by
  simp only [livesB, Bool.and_eq_true, decide_eq_true_eq] at h
  exact h

set_option maxRecDepth 100000 in
theorem hCount_any {B : HB} {H : HM} {O0 O1 : Obj} {w : World} {S : Nat → Prop} (h : HeapSt B H O0 O1 w S) (hF : Fine H) (r : Int) (r0 : 0 ≤ r) (r1 : r ≤ 18446744073709551615) :
    Calls Tryz.prog 82 #[.pointer (some ⟨B.hb, 0, none⟩), .int .u64 r] w fun e w' => e = .returned (.tuple #[.int .u64 (cntV H r), .int .i64 (cntE H r)]) ∧ Below w.heap.size w w' := by
  have HH := Lib.hid (And.intro h hF)
  have hl := hlives_any h hF r r0 r1
  clear h hF
  cases hb : livesB H r
  · have e1 : Hid (cntV H r = 0 ∧ cntE H r = 2) := Lib.hid (by rw [cntV, cntE, hb]; exact ⟨rfl, rfl⟩)
    rw [hb] at hl
    obtain ⟨y, hy⟩ : ∃ y, IntKind.i64.wrap r = y := ⟨_, rfl⟩
    rw [hy] at hl
    clear hb hy
    go_enter Tryz.func82, Tryz.ntmps82
    go_wp2_with fail
    refine hl.mono ?_
    rintro e w1 ⟨rfl, hb1⟩
    go_wp2
    go_ret2
    exact ⟨by rw [e1.out.1, e1.out.2]; rfl, hb1⟩
  · have hle := (livesB_le hb).1
    have l1 := HH.out.2.l1
    have e1 : Hid (cntV H r = at0 H.cnt r ∧ cntE H r = 0) := Lib.hid (by rw [cntV, cntE, hb]; exact ⟨rfl, rfl⟩)
    rw [hb, show IntKind.i64.wrap r = r by rw [IntKind.wrap_i64]; omega] at hl
    have ht := HH.out.2.ct r
    obtain ⟨v, hv⟩ : ∃ v, at0 H.cnt r = v := ⟨_, rfl⟩
    have hO := fun (w' : World) (hb : Below w.heap.size w w') => taOf_any (HH.out.1.later hb).counts r (by omega) (by omega)
    rw [hv] at ht e1 hO
    have HO := Lib.hid hO
    have hw : IntKind.u64.wrap v = v := by rw [IntKind.wrap_u64]; omega
    clear hb hle l1 ht hv hO
    go_enter Tryz.func82, Tryz.ntmps82
    go_wp2_with fail
    refine hl.mono ?_
    rintro e w1 ⟨rfl, hb1⟩
    have c7 := heap_cell (HH.out.1.later hb1).blk 7
    simp at c7
    have hO1 := HO.out w1 hb1
    have HB := Lib.hid hb1
    clear hl hb1
    go_wp2_with fail
    refine hO1.mono ?_
    rintro e w2 ⟨rfl, rfl⟩
    clear hO1
    go_wp2
    go_ret2
    exact ⟨by rw [e1.out.1, e1.out.2]; rfl, HB.out⟩

/-- The region of a pointer's object. -/
def tgt (H : HM) (v : Int) : Int := if hasM H.st v = true then owW H.on H.ow v else 0
set_option maxRecDepth 100000 in
theorem htarget_any {B : HB} {H : HM} {O0 O1 : Obj} {w : World} {S : Nat → Prop} (h : HeapSt B H O0 O1 w S) (v : Int) (v0 : 0 ≤ v) (v1 : v ≤ 18446744073709551615) :
    Calls Tryz.prog 122 #[.pointer (some ⟨B.hb, 0, none⟩), .int .u64 v] w fun e w' => e = .returned (.int .i64 (tgt H v)) ∧ w = w' := by
  have c1 := heap_cell h.blk 1
  have c2 := heap_cell h.blk 2
  simp at c1 c2
  have hs := sIs_any h.starts v v0 v1
  have hl := h.starts.len
  cases hb : hasM H.st v
  · have e1 : Hid (tgt H v = 0) := Lib.hid (by rw [tgt, hb]; rfl)
    rw [hb] at hs
    clear h hb
    go_enter Tryz.func122, Tryz.ntmps122
    go_wp2_with fail
    refine hs.mono ?_
    rintro e w1 ⟨rfl, rfl⟩
    clear hs
    go_wp2
    go_ret
    exact ⟨by rw [e1.out]; rfl, rfl⟩
  · have e1 : Hid (tgt H v = owW H.on H.ow v) := Lib.hid (by rw [tgt, hb]; rfl)
    have hv : v < H.st.length := by
      unfold hasM at hb
      split at hb
      · rename_i h; exact h.2
      · cases hb
    obtain ⟨gm, hO⟩ := h.owner
    have hw := oWord_any hO v (by omega)
    have y1 : IntKind.i64.wrap v = v := by rw [IntKind.wrap_i64]; omega
    obtain ⟨y, hy⟩ : ∃ y, owW H.on H.ow v = y := ⟨_, rfl⟩
    rw [hy] at hw e1
    rw [hb] at hs
    clear h hb hv hO hl hy
    go_enter Tryz.func122, Tryz.ntmps122
    go_wp2_with fail
    refine hs.mono ?_
    rintro e w1 ⟨rfl, rfl⟩
    clear hs
    go_wp2_with fail
    refine hw.mono ?_
    rintro e w1 ⟨rfl, rfl⟩
    clear hw
    go_wp2
    go_ret
    exact ⟨by rw [e1.out]; rfl, rfl⟩

def mayP (H : HM) (v : Int) : Bool := decide (v = 0) || hasM H.st v
set_option maxRecDepth 100000 in
theorem hmay2_any {B : HB} {H : HM} {O0 O1 : Obj} {w : World} {S : Nat → Prop} (h : HeapSt B H O0 O1 w S) (v : Int) (v0 : 0 ≤ v) (v1 : v ≤ 18446744073709551615) :
    Calls Tryz.prog 120 #[.pointer (some ⟨B.hb, 0, none⟩), .int .u64 v] w fun e w' => e = .returned (.bool (mayP H v)) ∧ w = w' := by
  have c2 := heap_cell h.blk 2
  simp at c2
  have hs := sIs_any h.starts v v0 v1
  obtain ⟨y, hy⟩ : ∃ y, hasM H.st v = y := ⟨_, rfl⟩
  have e0 : Hid (mayP H v = (decide (v = 0) || y)) := Lib.hid (by rw [mayP, hy])
  rw [hy] at hs
  clear h hy
  by_cases hz : v = 0
  · subst hz
    have e1 : Hid (mayP H 0 = true) := Lib.hid (by rw [e0.out]; simp)
    go_enter Tryz.func120, Tryz.ntmps120
    go_wp2
    go_ret
    exact ⟨by rw [e1.out]; rfl, rfl⟩
  · have y1 : (v == 0) = false := by simpa using hz
    have e1 : Hid (mayP H v = y) := Lib.hid (by rw [e0.out]; simp [hz])
    clear hz
    go_enter Tryz.func120, Tryz.ntmps120
    go_wp2_with fail
    refine hs.mono ?_
    rintro e w1 ⟨rfl, rfl⟩
    clear hs
    go_wp2
    go_ret
    exact ⟨by rw [e1.out]; rfl, rfl⟩

/-- Is a pointer counted? -/
def cntB (kind holder target : Int) : Bool := decide (kind = 1 ∧ target ≠ 0 ∧ target ≠ holder)
theorem aCounts_any (kind holder target : Int) (w : World) :
    Calls Tryz.prog 154 #[.int .i64 kind, .int .i64 holder, .int .i64 target] w fun e w' => e = .returned (.bool (cntB kind holder target)) ∧ w = w' := by
  by_cases h1 : kind = 1
  · subst h1
    by_cases h2 : target = 0
    · subst h2
      have e1 : Hid (cntB 1 holder 0 = false) := Lib.hid (by simp [cntB])
      go_enter Tryz.func154, Tryz.ntmps154
      go_wp2
      go_ret
      exact ⟨by rw [e1.out]; rfl, rfl⟩
    · have y2 : (target != 0) = true := by simpa using h2
      by_cases h3 : target = holder
      · have y3 : (target != holder) = false := by simpa using h3
        have e1 : Hid (cntB 1 holder target = false) := Lib.hid (by simp [cntB, h3])
        clear h2 h3
        go_enter Tryz.func154, Tryz.ntmps154
        go_wp2
        go_ret
        exact ⟨by rw [e1.out]; rfl, rfl⟩
      · have y3 : (target != holder) = true := by simpa using h3
        have e1 : Hid (cntB 1 holder target = true) := Lib.hid (by simp [cntB, h2, h3])
        clear h2 h3
        go_enter Tryz.func154, Tryz.ntmps154
        go_wp2
        go_ret
        exact ⟨by rw [e1.out]; rfl, rfl⟩
  · have y1 : (kind == 1) = false := by simpa using h1
    have e1 : Hid (cntB kind holder target = false) := Lib.hid (by simp [cntB, h1])
    clear h1
    go_enter Tryz.func154, Tryz.ntmps154
    go_wp2
    go_ret
    exact ⟨by rw [e1.out]; rfl, rfl⟩
end Go.Proofs.YtcenagpkfimkbaaGreatDoor
/-
  heap.Heap: moved, SetGlobal, Global.
-/
namespace Go.Proofs.YtcenagpkfimkbaaGreatDoor
open Go Go.RowKit

theorem tgt_le {H : HM} (hF : Fine H) (v : Int) : 0 ≤ tgt H v ∧ tgt H v ≤ 1000000 := by
  unfold tgt
  split
  · unfold owW
    split
    · omega
    · unfold owP
      split
      · exact hF.ob _
      · omega
  · omega
/-- The region that a counted pointer counts for. -/
def cz (kind holder t : Int) : Int := if cntB kind holder t = true then t else 0
theorem cz_le {kind holder t : Int} (h : 0 ≤ t ∧ t ≤ 1000000) : 0 ≤ cz kind holder t ∧ cz kind holder t ≤ 1000000 := by
  unfold cz; split <;> omega
def mvd (H : HM) (kind holder old v : Int) : HM := { H with cnt := swL H.cnt (cz kind holder (tgt H old)) (cz kind holder (tgt H v)) }

theorem HeapSt.cntStep {B : HB} {H : HM} {O0 O1 : Obj} {w : World} {S : Nat → Prop} (h : HeapSt B H O0 O1 w S) {m : IM Int} {w' : World} (hm : Moved (fun q => q = B.cm) w w') (ht : TallyAt w' B.cb B.cm m) :
    ∃ S', HeapSt B { H with cnt := m } O0 O1 w' S' ∧ Grows S S' w w' := by
  obtain ⟨S0, h0, hs, hc⟩ := h.step 9 (by omega) { H with cnt := m } (upd_eq fun j hj => by simp only [heapP]; rw [if_neg hj, if_neg hj])
  have e0 := h0.2
  refine hc w' S0 ⟨ht, e0⟩ ⟨(Moved.refl S0 w).trans hm (fun k hk => .inl ((e0 k).2 (.inr hk))), fun k hk => .inl hk⟩

set_option maxRecDepth 100000 in
set_option maxHeartbeats 2000000 in
theorem hmoved_any {B : HB} {H : HM} {O0 O1 : Obj} {w : World} {S : Nat → Prop} (h : HeapSt B H O0 O1 w S) (hF : Fine H) (kind holder old v : Int) (o0 : 0 ≤ old) (o1 : old ≤ 18446744073709551615) (v0 : 0 ≤ v) (v1 : v ≤ 18446744073709551615) :
    Calls Tryz.prog 123 #[.pointer (some ⟨B.hb, 0, none⟩), .int .i64 kind, .int .i64 holder, .int .u64 old, .int .u64 v] w fun e w' => e = .returned (.tuple #[]) ∧ ∃ S', HeapSt B (mvd H kind holder old v) O0 O1 w' S' ∧ Grows S S' w w' := by
  have h1 := htarget_any h old o0 o1
  have h2 := htarget_any h v v0 v1
  have t1 := tgt_le hF old
  have t2 := tgt_le hF v
  have hS := taSwap_any h.counts hF.ct (cz kind holder (tgt H old)) (cz kind holder (tgt H v)) (by have := cz_le (kind := kind) (holder := holder) t1; omega) (by have := cz_le (kind := kind) (holder := holder) t1; omega) (by have := cz_le (kind := kind) (holder := holder) t2; omega) (by have := cz_le (kind := kind) (holder := holder) t2; omega) (by have := hF.cl; omega)
  have HH := Lib.hid h
  have c7 := heap_cell h.blk 7
  simp at c7
  unfold mvd
  obtain ⟨a, ha⟩ : ∃ a, tgt H old = a := ⟨_, rfl⟩
  obtain ⟨b, hb⟩ : ∃ b, tgt H v = b := ⟨_, rfl⟩
  rw [ha] at h1 hS ⊢
  rw [hb] at h2 hS ⊢
  have hA := aCounts_any kind holder a w
  have hB := aCounts_any kind holder b w
  obtain ⟨x, hx⟩ : ∃ x, cz kind holder a = x := ⟨_, rfl⟩
  obtain ⟨y, hy⟩ : ∃ y, cz kind holder b = y := ⟨_, rfl⟩
  rw [hx, hy] at hS ⊢
  obtain ⟨q, hq⟩ : ∃ q, swL H.cnt x y = q := ⟨_, rfl⟩
  rw [hq] at hS ⊢
  clear h hF t1 t2 ha hb hq
  cases e1 : cntB kind holder a <;> cases e2 : cntB kind holder b
  all_goals
    simp only [cz, e1, e2, if_true, Bool.false_eq_true, if_false] at hx hy
    subst hx hy
    rw [e1] at hA
    rw [e2] at hB
    clear e1 e2
    go_enter Tryz.func123, Tryz.ntmps123
    go_wp2_with fail
    refine h1.mono ?_
    rintro e w1 ⟨rfl, rfl⟩
    clear h1
    go_wp2_with fail
    refine h2.mono ?_
    rintro e w1 ⟨rfl, rfl⟩
    clear h2
    go_wp2_with fail
    refine hA.mono ?_
    rintro e w1 ⟨rfl, rfl⟩
    clear hA
    go_wp2_with fail
    refine hB.mono ?_
    rintro e w1 ⟨rfl, rfl⟩
    clear hB
    go_wp2_with fail
    refine hS.mono ?_
    rintro e w1 ⟨rfl, hm, ht⟩
    clear hS
    go_wp2
    go_end0
    exact ⟨rfl, HH.out.cntStep hm ht⟩

theorem HeapSt.glStep {B : HB} {H : HM} {O0 O1 : Obj} {w : World} {S : Nat → Prop} (h : HeapSt B H O0 O1 w S) {m : List Int} {w' : World} (hm : Moved (fun q => q = B.gg) w w') (ht : GlobAt w' B.gb B.gg m) :
    ∃ S', HeapSt B { H with gl := m } O0 O1 w' S' ∧ Grows S S' w w' := by
  obtain ⟨S0, h0, hs, hc⟩ := h.step 10 (by omega) { H with gl := m } (upd_eq fun j hj => by simp only [heapP]; rw [if_neg hj, if_neg hj])
  have e0 := h0.2
  refine hc w' S0 ⟨ht, e0⟩ ⟨(Moved.refl S0 w).trans hm (fun k hk => .inl ((e0 k).2 (.inr hk))), fun k hk => .inl hk⟩

def sgE (H : HM) (i v : Int) : Int := if glE H.gl i ≠ 0 then glE H.gl i else if mayP H v = true then 0 else 9
def sgH (H : HM) (i v : Int) : HM := if sgE H i v = 0 then { mvd H 1 0 (glV H.gl i) v with gl := glS H.gl i v } else H
set_option maxRecDepth 100000 in
set_option maxHeartbeats 2000000 in
theorem hSetGlobal_any {B : HB} {H : HM} {O0 O1 : Obj} {w : World} {S : Nat → Prop} (h : HeapSt B H O0 O1 w S) (hF : Fine H) (i v : Int) (i0 : 0 ≤ i) (i1 : i ≤ 18446744073709551615) (v0 : 0 ≤ v) (v1 : v ≤ 18446744073709551615) :
    Calls Tryz.prog 70 #[.pointer (some ⟨B.hb, 0, none⟩), .int .u64 i, .int .u64 v] w fun e w' => e = .returned (.int .i64 (sgE H i v)) ∧ ∃ S', HeapSt B (sgH H i v) O0 O1 w' S' ∧ Grows S S' w w' := by
  have h1 := gGet_any h.globs i i0 i1
  have h2 := hmay2_any h v v0 v1
  have gv := hF.gv i
  have h3 := hmoved_any h hF 1 0 (glV H.gl i) v gv.1 gv.2 v0 v1
  have HH := Lib.hid h
  have c6 := heap_cell h.blk 8
  simp at c6
  have hG := fun (w' : World) (S' : Nat → Prop) (h' : HeapSt B (mvd H 1 0 (glV H.gl i) v) O0 O1 w' S') => gSet_any h'.globs i v i0 i1
  have e0 : Hid (sgE H i v = if glE H.gl i ≠ 0 then glE H.gl i else if mayP H v = true then 0 else 9) := Lib.hid rfl
  have e1 : Hid (sgH H i v = if sgE H i v = 0 then { mvd H 1 0 (glV H.gl i) v with gl := glS H.gl i v } else H) := Lib.hid rfl
  have eg : (mvd H 1 0 (glV H.gl i) v).gl = H.gl := rfl
  simp only [eg] at hG
  obtain ⟨H1, hH1⟩ : ∃ H1, mvd H 1 0 (glV H.gl i) v = H1 := ⟨_, rfl⟩
  rw [hH1] at h3 e1
  simp only [hH1] at hG
  obtain ⟨g, hg⟩ : ∃ g, glE H.gl i = g := ⟨_, rfl⟩
  simp only [hg] at hG
  have HG := Lib.hid hG
  obtain ⟨m, hm⟩ : ∃ m, mayP H v = m := ⟨_, rfl⟩
  obtain ⟨x, hx⟩ : ∃ x, glV H.gl i = x := ⟨_, rfl⟩
  rw [hg] at h1 e0
  rw [hm] at h2 e0
  rw [hx] at h1 h3
  have c7 : ∀ w' S', HeapSt B H1 O0 O1 w' S' → w'.cell? ⟨B.hb, 8, none⟩ = some (.pointer (some ⟨B.gb, 0, none⟩)) := fun w' S' h' => by
    have := heap_cell h'.blk 8
    simpa using this
  have C7 := Lib.hid c7
  clear h hF gv hG hg hm hx hH1 eg c7
  by_cases z : g = 0
  · subst z
    cases m
    · have e2 : Hid (sgE H i v = 9) := Lib.hid (by rw [e0.out]; rfl)
      have e3 : Hid (sgH H i v = H) := Lib.hid (by rw [e1.out, e2.out]; rfl)
      go_enter Tryz.func70, Tryz.ntmps70
      go_wp2_with fail
      refine h1.mono ?_
      rintro e w1 ⟨rfl, rfl⟩
      clear h1
      go_wp2_with fail
      refine h2.mono ?_
      rintro e w1 ⟨rfl, rfl⟩
      clear h2
      go_wp2
      go_ret
      exact ⟨by rw [e2.out]; rfl, S, by rw [e3.out]; exact HH.out, Grows.refl _ _⟩
    · have e2 : Hid (sgE H i v = 0) := Lib.hid (by rw [e0.out]; rfl)
      have e3 : Hid (sgH H i v = { H1 with gl := glS H.gl i v }) := Lib.hid (by rw [e1.out, e2.out]; rfl)
      obtain ⟨gs, hgs⟩ : ∃ gs, glS H.gl i v = gs := ⟨_, rfl⟩
      rw [hgs] at HG e3
      clear hgs
      go_enter Tryz.func70, Tryz.ntmps70
      go_wp2_with fail
      refine h1.mono ?_
      rintro e w1 ⟨rfl, rfl⟩
      clear h1
      go_wp2_with fail
      refine h2.mono ?_
      rintro e w1 ⟨rfl, rfl⟩
      clear h2
      go_wp2_with fail
      refine h3.mono ?_
      rintro e w1 ⟨rfl, S1, hs1, hgr⟩
      clear h3
      have h4 := HG.out w1 S1 hs1
      have c8 := C7.out w1 S1 hs1
      have HS := Lib.hid hs1
      have HGR := Lib.hid hgr
      clear hs1 hgr
      go_wp2_with fail
      refine h4.mono ?_
      rintro e w2 ⟨rfl, hm, ht⟩
      clear h4
      go_wp2
      go_ret
      obtain ⟨S2, hs2, hgr2⟩ := HS.out.glStep hm ht
      exact ⟨by rw [e2.out]; rfl, S2, by rw [e3.out]; exact hs2, HGR.out.trans hgr2⟩
  · have e2 : Hid (sgE H i v = g) := Lib.hid (by rw [e0.out, if_pos z])
    have e3 : Hid (sgH H i v = H) := Lib.hid (by rw [e1.out, e2.out, if_neg z])
    have z1 : (g != 0) = true := by simpa using z
    clear z
    go_enter Tryz.func70, Tryz.ntmps70
    go_wp2_with fail
    refine h1.mono ?_
    rintro e w1 ⟨rfl, rfl⟩
    clear h1
    go_wp2
    go_ret
    exact ⟨by rw [e2.out]; rfl, S, by rw [e3.out]; exact HH.out, Grows.refl _ _⟩
end Go.Proofs.YtcenagpkfimkbaaGreatDoor
/-
  slices.Sort at []int: the library's contract, at this program.
-/
namespace Go.Proofs.YtcenagpkfimkbaaGreatDoor
open Go Go.RowKit Go.Shelf Go.Sort

def sortRen : Ren := ⟨fun | 189 => 134 | 125 => 176 | 257 => 175 | 128 => 209 | 129 => 210 | 294 => 200 | 295 => 201 | 296 => 202 | 297 => 203 | 298 => 204 | 299 => 205 | 216 => 206 | 300 => 207 | 301 => 208 | 328 => 219 | 329 => 220 | 330 => 221 | 331 => 222 | 332 => 223 | 215 => 224 | 343 => 232 | n => n, fun | 28 => 58 | 3 => 3 | 46 => 270 | 0 => 0 | 51 => 297 | 53 => 34 | 4 => 4 | 183 => 291 | 182 => 290 | 131 => 139 | 5 => 5 | 9 => 9 | 218 => 302 | 222 => 306 | 228 => 315 | 229 => 239 | n => n, fun n => n⟩
theorem sortLays : Lays.n189 Tryz.prog sortRen := {
  mixed := by kernel_rfl
  f125 := Tryz.func176.trans (congrArg some (by kernel_rfl))
  f128 := Tryz.func209.trans (congrArg some (by kernel_rfl))
  f129 := Tryz.func210.trans (congrArg some (by kernel_rfl))
  f189 := Tryz.func134.trans (congrArg some (by kernel_rfl))
  f215 := Tryz.func224.trans (congrArg some (by kernel_rfl))
  f216 := Tryz.func206.trans (congrArg some (by kernel_rfl))
  f257 := Tryz.func175.trans (congrArg some (by kernel_rfl))
  f294 := Tryz.func200.trans (congrArg some (by kernel_rfl))
  f295 := Tryz.func201.trans (congrArg some (by kernel_rfl))
  f296 := Tryz.func202.trans (congrArg some (by kernel_rfl))
  f297 := Tryz.func203.trans (congrArg some (by kernel_rfl))
  f298 := Tryz.func204.trans (congrArg some (by kernel_rfl))
  f299 := Tryz.func205.trans (congrArg some (by kernel_rfl))
  f300 := Tryz.func207.trans (congrArg some (by kernel_rfl))
  f301 := Tryz.func208.trans (congrArg some (by kernel_rfl))
  f328 := Tryz.func219.trans (congrArg some (by kernel_rfl))
  f329 := Tryz.func220.trans (congrArg some (by kernel_rfl))
  f330 := Tryz.func221.trans (congrArg some (by kernel_rfl))
  f331 := Tryz.func222.trans (congrArg some (by kernel_rfl))
  f332 := Tryz.func223.trans (congrArg some (by kernel_rfl))
  f343 := Tryz.func232.trans (congrArg some (by kernel_rfl))
  t0 := Tryz.underlying0
  a0 := Tryz.isAgg0
  z0 := Tryz.sizeOf0
  v0 := Tryz.zeroValue0
  t3 := Tryz.underlying3
  a3 := Tryz.isAgg3
  z3 := Tryz.sizeOf3
  v3 := Tryz.zeroValue3
  t4 := Tryz.underlying4
  a4 := Tryz.isAgg4
  z4 := Tryz.sizeOf4
  v4 := Tryz.zeroValue4
  t5 := Tryz.underlying5
  a5 := Tryz.isAgg5
  z5 := Tryz.sizeOf5
  v5 := Tryz.zeroValue5
  t9 := Tryz.underlying9
  a9 := Tryz.isAgg9
  z9 := Tryz.sizeOf9
  v9 := Tryz.zeroValue9
  t28 := Tryz.underlying58
  a28 := Tryz.isAgg58
  z28 := Tryz.sizeOf58
  v28 := Tryz.zeroValue58
  t46 := Tryz.underlying270
  a46 := Tryz.isAgg270
  z46 := Tryz.sizeOf270
  v46 := Tryz.zeroValue270
  t51 := Tryz.underlying297
  a51 := Tryz.isAgg297
  z51 := Tryz.sizeOf297
  v51 := Tryz.zeroValue297
  t53 := Tryz.underlying34
  a53 := Tryz.isAgg34
  z53 := Tryz.sizeOf34
  v53 := Tryz.zeroValue34
  t131 := Tryz.underlying139
  a131 := Tryz.isAgg139
  z131 := Tryz.sizeOf139
  v131 := Tryz.zeroValue139
  t182 := Tryz.underlying290
  a182 := Tryz.isAgg290
  z182 := Tryz.sizeOf290
  v182 := Tryz.zeroValue290
  t183 := Tryz.underlying291
  a183 := Tryz.isAgg291
  z183 := Tryz.sizeOf291
  v183 := Tryz.zeroValue291
  t218 := Tryz.underlying302
  a218 := Tryz.isAgg302
  z218 := Tryz.sizeOf302
  v218 := Tryz.zeroValue302
  t222 := Tryz.underlying306
  a222 := Tryz.isAgg306
  z222 := Tryz.sizeOf306
  v222 := Tryz.zeroValue306
  t228 := Tryz.underlying315
  a228 := Tryz.isAgg315
  z228 := Tryz.sizeOf315
  v228 := Tryz.zeroValue315
  t229 := Tryz.underlying239
  a229 := Tryz.isAgg239
  z229 := Tryz.sizeOf239
  v229 := Tryz.zeroValue239 }
theorem Sort_any (blk off cap : Nat) (zs : List Int) (w : World) (hH : Holds (Value.int .i64) w blk off zs.toArray) (hblk : blk < w.heap.size) (hsz : zs.length < 4611686018427387904) :
    Calls Tryz.prog 134 #[.slice (some ⟨blk, off, none⟩) zs.length cap] w fun e w' =>
      e = .returned (.tuple #[]) ∧ ∃ n os, w' = grow (putRow (Value.int .i64) (Sort.ahead w n) blk off (zs.mergeSort fun x y => decide (x ≤ y)).toArray) os :=
  Any.slices_Sort_int sortLays blk off cap zs w hH hblk hsz
end Go.Proofs.YtcenagpkfimkbaaGreatDoor
/-
  A range over a map from whole numbers, under way.
-/
namespace Go.Proofs.YtcenagpkfimkbaaGreatDoor
open Go Go.RowKit

/-- Block r ranges over the map in block b; the keys of 'done' have come. -/
structure IterAt (q : IntKind) (k : TypeId) (w : World) (b r : Nat) (m : IM Value) (done : List Int) : Prop where
  map : MapAt q k w b m
  nodup : done.Nodup
  has : ∀ x ∈ done, (lk m x).isSome = true
  rg : ∃ left cnt, w.ranges Tryz.prog k idElem b r m.length (encM q m) left cnt ∧ ∀ x, left (.int q x) = ((lk m x).isSome && !done.contains x)
section
variable {q : IntKind} {k t e : TypeId} {w : World} {b r : Nat} {m : IM Value} {done : List Int}
theorem MapAt.range (h : MapAt q k w b m) (hk : Tryz.prog.underlying k = some (.int q)) (ht : Tryz.prog.underlying t = some (.map k e)) :
    ∃ w', (Instr.range t (.map (some b))).run Tryz.prog w = .ok (.pointer (some ⟨w.heap.size, 0, none⟩)) w' ∧ IterAt q k w' b w.heap.size m [] ∧ w.grownBy w' none ∧ w'.heap.size = w.heap.size + 1 := by
  obtain ⟨w', h1, h2, h3, h4⟩ := h.1.range (Maps.int_keyed hk) ht
  refine ⟨w', h1, ⟨⟨h2.owns, h.2⟩, List.nodup_nil, (by simp), _, _, h2, fun x => ?_⟩, h3, h4⟩
  rw [enc_has]
  simp
theorem IterAt.next (h : IterAt q k w b r m done) (hk : Tryz.prog.underlying k = some (.int q)) (ty : TypeId) :
    ((∀ x, (lk m x).isSome = true → x ∈ done) ∧ (Instr.next (.pointer (some ⟨r, 0, none⟩)) false ty).run Tryz.prog w = .ok (.tuple #[.bool false]) w) ∨
    ∃ x v w', lk m x = some v ∧ x ∉ done ∧ (Lit.int q x).wf = true ∧ (Instr.next (.pointer (some ⟨r, 0, none⟩)) false ty).run Tryz.prog w = .ok (.tuple #[.bool true, .int q x, v]) w' ∧ IterAt q k w' b r m (done ++ [x]) ∧
      w.grownBy w' (some r) ∧ w'.heap.size = w.heap.size ∧ (Instr.entry (.pointer (some ⟨r, 0, none⟩))).run Tryz.prog w' = .ok (.tuple #[.int q x, v]) w' ∧ w'.rangeLeft b r < w.rangeLeft b r := by
  obtain ⟨left, cnt, hr, hl⟩ := h.rg
  rcases hr.next (Maps.int_keyed hk) ty with ⟨h0, h1, h2⟩ | ⟨key, v, kl, y, w', cnt', hkey, hlk, hv, hat, hrun, hrg, hlt, hg, hsz, hen⟩
  · refine .inl ⟨fun x hx => ?_, h2⟩
    have := h1 (.int q x)
    rw [hl, hx] at this
    simpa using this
  · obtain ⟨x, rfl, rfl, hwf⟩ := Maps.keyOf_int_inv hk hkey
    rw [hl] at hlk
    simp only [Bool.and_eq_true, Bool.not_eq_true'] at hlk
    obtain ⟨u, hu⟩ := Option.isSome_iff_exists.1 hlk.1
    have hy : y = (.held v, []) := by
      simp only [idElem, Option.some.injEq] at hv
      exact hv.symm
    have := hat (.held v)
    rw [enc_at, hu, hy] at this
    simp only [Option.getD_some, DataW.held.injEq] at this
    subst this
    have hnd : x ∉ done := by
      intro hx
      have := hlk.2
      rw [List.contains_iff_mem.2 hx] at this
      cases this
    refine .inr ⟨x, u, w', hu, hnd, hwf, hrun, ⟨⟨hrg.owns, h.map.2⟩, ?_, ?_, _, _, hrg, fun z => ?_⟩, hg, hsz, hen, ?_⟩
    · rw [List.nodup_append]
      exact ⟨h.nodup, by simp, fun a ha c hc => by
        simp only [List.mem_singleton] at hc
        subst hc
        rintro rfl
        exact hnd ha⟩
    · intro z hz
      rcases List.mem_append.1 hz with hz | hz
      · exact h.has z hz
      · simp only [List.mem_singleton] at hz
        subst hz
        rw [hu]; rfl
    · simp only [hl]
      by_cases e : z = x
      · subst e
        simp [Lit.sameKey]
      · simp [Lit.sameKey, e]
    · rw [hrg.left_eq, hr.left_eq]; exact hlt
theorem IterAt.moved {w' : World} {row : Option Nat} (h : IterAt q k w b r m done) (hg : w.grownBy w' row) (hb : some b ≠ row) (hr : some r ≠ row) : IterAt q k w' b r m done := by
  obtain ⟨left, cnt, h1, h2⟩ := h.rg
  have := h1.kept hg hb hr
  exact ⟨⟨this.owns, h.map.2⟩, h.nodup, h.has, left, cnt, this, h2⟩
/-- All keys have come. -/
theorem IterAt.all (h : IterAt q k w b r m done) (ha : ∀ x, (lk m x).isSome = true → x ∈ done) : done.Perm (m.map (·.1)) := by
  have hr := h.map.2
  refine (List.perm_ext_iff_of_nodup h.nodup ?_).2 fun x => ⟨fun hx => ?_, fun hx => ?_⟩
  · have : (m.map (·.1)).Pairwise (fun a c => a < c) := List.pairwise_map.2 hr
    exact this.imp (fun h => by omega)
  · obtain ⟨u, hu⟩ := Option.isSome_iff_exists.1 (h.has x hx)
    exact List.mem_map.2 ⟨(x, u), (lk_some hr).1 hu, rfl⟩
  · obtain ⟨p, hp, rfl⟩ := List.mem_map.1 hx
    exact ha _ (by rw [(lk_some hr).2 (show (p.1, p.2) ∈ m from hp)]; rfl)
end
/-- Whole numbers in rising order are the sort of any order of them. -/
theorem sort_rising {l s : List Int} (hp : l.Perm s) (hs : s.Pairwise (fun a c => a < c)) : l.mergeSort (fun x y => decide (x ≤ y)) = s := by
  have h1 : (l.mergeSort (fun x y => decide (x ≤ y))).Pairwise (fun a c => a ≤ c) := by
    have := List.pairwise_mergeSort (le := fun x y : Int => decide (x ≤ y)) (by intro a b c; simp; omega) (by intro a b; simp; omega) l
    exact this.imp (fun h => by simpa using h)
  exact List.Perm.eq_of_pairwise (fun a b _ _ h1 h2 => by omega) h1 (hs.imp (fun h => by omega)) ((List.mergeSort_perm l _).trans hp)
end Go.Proofs.YtcenagpkfimkbaaGreatDoor
/-
  slices.Sort of a row that is owned.
-/
namespace Go.Proofs.YtcenagpkfimkbaaGreatDoor
open Go Go.RowKit Go.Shelf Go.Sort

theorem SortOwn_any (B : Nat) (v : Value) (zs : List Int) (w : World) (h : w.ownsRow B 3 1 v zs.length (zs.map (Value.int .i64))) (hz : zs.length ≤ 1000000000) :
    Calls Tryz.prog 134 #[v] w fun e w' => e = .returned (.tuple #[]) ∧ w.grownBy w' v.ownBlock ∧ w'.ownsRow B 3 1 v zs.length ((zs.mergeSort fun x y => decide (x ≤ y)).map (Value.int .i64)) := by
  rcases h.2 with ⟨rfl, h0⟩ | ⟨g, cap, cur, rfl, hg, hb, hn, hcap, hcs, ht⟩
  · have hz : zs = [] := List.length_eq_zero_iff.1 h0
    subst hz
    refine (Any.slices_Sort_int_none sortLays none 0 w).mono ?_
    rintro e w' ⟨rfl, rfl⟩
    exact ⟨rfl, ⟨rfl, rfl, rfl, Nat.le_refl _, fun _ _ _ => rfl⟩, by simpa using h⟩
  · have hl : (zs.mergeSort fun x y => decide (x ≤ y)).length = zs.length := by simp
    refine (Sort_any g 0 cap zs w (holds_of_blockI hb (by simpa using ht)) (Array.getElem?_eq_some_iff.1 hb).1 (by omega)).mono ?_
    rintro e w' ⟨rfl, n, os, rfl⟩
    exact ⟨rfl, grownBy_sortedI _, ownsRow_sortedI hl hg hb hn hcap hcs⟩
end Go.Proofs.YtcenagpkfimkbaaGreatDoor
/-
  One round of a range over a function, out of the walks of its assignments and its body.
-/
namespace Go.Proofs.YtcenagpkfimkbaaGreatDoor
open Go Go.RowKit Go.Shelf

section
variable {P : Program} {b : Frame} {a : Act} {k : List Item} {cs : List Frame} {w : World} {Q : Exit → Act → World → Prop} {F : Fence} {n : Nat}
theorem into_scope {c : Code} : step P (lone (b.atR a (.code (.scope c) :: k)) cs w) = .next (lone (b.atR a (.code c :: .inScope c :: k)) cs w) :=
  step_lone_go (by simp [stepG, stepG.exec, Frame.atR])
theorem past_scope {c : Code} : step P (lone (b.atR a (.inScope c :: k)) cs w) = .next (lone (b.atR a k) cs w) :=
  step_lone_go (by simp [stepG, stepG.exec, Frame.atR])
/-- A scope through which the run goes without a goto, inside a fence. -/
theorem wpIn_scope {c : Code} (h : c.wpIn F n P (Exit.noGoto Q) a w) : (Code.scope c).wpIn F n P Q a w := by
  intro b k cs hro hb hr
  have start : (lone (b.atR a (.code (.scope c) :: k)) cs w).fenced P F := fenced_calm hb hr rfl
  obtain ⟨e, a1, w1, hq, arr⟩ := h b (.inScope c :: k) cs hro hb hr
  refine ⟨e, a1, w1, ?_, ?_⟩
  · cases e <;> first | exact hq | exact hq.elim
  · cases e with
    | normal => exact .head start into_scope (StepsIn.trans arr (.one (fenced_calm hb hr rfl) past_scope))
    | exit id =>
      have same : exitTo id (.inScope c :: k) = exitTo id k := by simp [exitTo]
      refine ⟨fun k' hk => .head start into_scope (arr.1 k' (by rw [same]; exact hk)), fun hr' hk => ?_⟩
      obtain ⟨k1, g1, g2⟩ := arr.2 hr' (by rw [same]; exact hk)
      exact ⟨k1, g1, .head start into_scope g2⟩
    | goto l => exact hq.elim
    | ret => exact .of_steps (.one start into_scope) arr
    | panic ch => exact .of_steps (.one start into_scope) arr
    | outgrown => exact .of_steps (.one start into_scope) arr
end

/-- The loop's record. -/
abbrev recOf (st : LoopState) (pe : Option Code) (fn : FuncId) (tmps : Array Value) (ps : Array Tmp) (assign body : Code) (D : Nat) : Obj :=
  .loop { state := st, pending := pe, fn, tmps, params := ps, assign, body, defers := D }
/-- How a round's body may be left: off its end, or by a return. -/
def RoundEnd (l : Nat) (fn : FuncId) (tmps : Array Value) (ps : Array Tmp) (assign body : Code) (D : Nat) (R : Ending → World → Prop) : Exit → Act → World → Prop
  | .normal, _, w => w.heap[l]? = some (recOf .busy none fn tmps ps assign body D) ∧ R (.returned (.bool true)) (w.putObj l (recOf .ready none fn tmps ps assign body D))
  | .ret, _, w => w.heap[l]? = some (recOf .busy none fn tmps ps assign body D) ∧ R (.returned (.bool false)) (w.putObj l (recOf .done (some .ret) fn tmps ps assign body D))
  | _, _, _ => False

theorem yield_round {F : Fence} {m : Nat} {P : Program} {l : Nat} {fn : FuncId} {tmps : Array Value} {ps : Array Tmp} {assign body : Code} {D : Nat} {W : World} {args : Array Value} {R : Ending → World → Prop} (hfn : F.fn fn)
    (hl : W.heap[l]? = some (recOf .ready none fn tmps ps assign body D)) (hs : args.size = ps.size)
    (h : assign.wpIn (F.inRound l) m P (Exit.then (fun a₁ w₁ => w₁.heap[l]? = some (recOf .ready none fn tmps ps assign body D) ∧
        body.wpIn (F.inRound l) m P (RoundEnd l fn tmps ps assign body D R) a₁ (w₁.putObj l (recOf .busy none fn tmps ps assign body D))) (fun _ _ _ => False))
      { tmps := (ps.zip args).foldl (fun t (p, v) => t.setIfInBounds p v) tmps, defers := [] } W) : YieldAt F m P l args W R := by
  refine ⟨fn, _, assign, body, run_yield hl hs, roundIn_of_wpIn hfn (wpIn_mono h ?_)⟩
  rintro e a w h1
  cases e with
  | normal =>
    obtain ⟨hr, hb⟩ := h1
    refine ⟨_, run_beginRound hr rfl, wpIn_mono hb ?_⟩
    rintro e2 a2 w2 h2
    cases e2 with
    | normal => exact ⟨_, _, run_endRound none h2.1, h2.2⟩
    | ret => exact ⟨_, _, run_endRound (some .ret) h2.1, h2.2⟩
    | exit id => exact h2.elim
    | goto t => exact h2.elim
    | panic c => exact h2.elim
    | outgrown => exact h2.elim
  | ret => exact h1.elim
  | exit id => exact h1.elim
  | goto t => exact h1.elim
  | panic c => exact h1.elim
  | outgrown => exact h1.elim
end Go.Proofs.YtcenagpkfimkbaaGreatDoor
/-
  append onto a row of one's own: and where its block lies behind it. The range statement over a function, at large.
-/
namespace Go.Proofs.YtcenagpkfimkbaaGreatDoor
open Go Go.RowKit Go.Shelf

theorem owns_base {w : World} {B B' : Nat} {t : TypeId} {size : Nat} {v : Value} {n : Nat} {xs : List Value} (h : w.ownsRow B t size v n xs) (hb : B' ≤ B) : w.ownsRow B' t size v n xs := by
  refine ⟨h.1, h.2.imp_right ?_⟩
  rintro ⟨g, cap, cur, rfl, h1, h2⟩
  exact ⟨g, cap, cur, rfl, Nat.le_trans hb h1, h2⟩

theorem run_append_keep {P : Program} (w : World) (base : Nat) (t ty e : TypeId) (i : TypeInfo) (z : Value) (size bytes : Nat) (ht : P.underlying t = some (.slice e)) (hi : P.info? e = some i) (hz : i.zero = some z)
    (hsize : i.size = size) (hby : i.bytes = bytes) (hzs : z.cells.size = size) (hsz : 0 < size)
    (v : Value) (n : Nat) (xs : List Value) (hown : w.ownsRow base e size v n xs)
    (a : Addr) (m c : Nat) (news : List Value) (hl : news.length = m * size) (hnews : ∀ j u, news[j]? = some u → w.cell? (a.add j) = some u) (h1 : ∀ u ∈ news, u.oneCell' = true)
    (h63 : n + m ≤ maxLen) (hbytes : (n + m) * bytes ≤ 140737488355328) (hbase : base ≤ w.heap.size) :
    ∃ v' w', (Builtin.append_ #[t, t] ty #[v, .slice (some a) m c]).run P w = .ok v' w' ∧ w'.ownsRow base e size v' (n + m) (xs ++ news) ∧ w.grownBy w' v.ownBlock ∧
      (v'.ownBlock = v.ownBlock ∨ ∀ k, v'.ownBlock = some k → w.heap.size ≤ k) := by
  rcases hown.2 with ⟨rfl, rfl⟩ | ⟨g, cap, cur, rfl, hbg, hg, hnc, hcm, hcs, htake⟩
  · obtain rfl : xs = [] := List.eq_nil_of_length_eq_zero (by simpa using hown.1)
    obtain ⟨v', w', hr, ho, hg, _⟩ := run_append_own (P := P) w w.heap.size t ty e i z size bytes ht hi hz hsize hby hzs hsz (.slice none 0 0) 0 [] (World.ownsRow_nil w _ e size) a m c news hl hnews h1 h63 hbytes (Nat.le_refl _)
    exact ⟨v', w', hr, owns_base ho hbase, hg, .inr fun k hk => (ho.lt k hk).1⟩
  · by_cases hroom : n + m ≤ cap
    · obtain ⟨w', hr, ho, hgr⟩ := run_append_fits (P := P) w base t ty e i size ht hi hsize g n cap xs hown a m c news hl hnews h1 hroom
      exact ⟨_, w', hr, ho, hgr, .inl rfl⟩
    · obtain ⟨v', w', hr, ho, hgr⟩ := run_append_arg_grows (P := P) w t ty e i z size bytes ht hi hz hsize hby hzs hsz ⟨g, 0, none⟩ n cap xs hown.1 (hown.cells rfl) a m c news hl hnews (by omega) h63 hbytes
      exact ⟨v', w', hr, owns_base ho hbase, ⟨hgr.os, hgr.tape, hgr.output, hgr.size, fun k hk _ => hgr.block k hk (by simp)⟩, .inr fun k hk => (ho.lt k hk).1⟩

theorem wpList_append_keep {P : Program} (w : World) {ops : Array Oper} {rest : List Oper} {o : Oper} {a : Act} {Q : Exit → Act → World → Prop}
    (hg : o.guard = none) (s x : Operand) (t : TypeId) (hop : o.op = Op.call { callee := Callee.builtin Builtin.append, args := #[s, x], argTypes := #[t, t] })
    (base : Nat) (e : TypeId) (i : TypeInfo) (z : Value) (size bytes : Nat) (h1 : P.underlying t = some (.slice e)) (h2 : P.info? e = some i) (h3 : i.zero = some z) (h4 : i.size = size) (h5 : i.bytes = bytes) (h6 : z.cells.size = size) (h7 : 0 < size)
    (v : Value) (k : Nat) (xs : List Value) (hs : a.eval s = v) (hown : w.ownsRow base e size v k xs) (ad : Addr) (m c : Nat) (news : List Value) (hx : a.eval x = .slice (some ad) m c) (hn : news.length = m * size)
    (hc : ∀ j u, news[j]? = some u → w.cell? (ad.add j) = some u) (h1c : ∀ u ∈ news, u.oneCell' = true) (b1 : k + m ≤ maxLen) (b2 : (k + m) * bytes ≤ 140737488355328) (b3 : base ≤ w.heap.size)
    (hK : ∀ v' w', w'.ownsRow base e size v' (k + m) (xs ++ news) → w.grownBy w' v.ownBlock → (v'.ownBlock = v.ownBlock ∨ ∀ k, v'.ownBlock = some k → w.heap.size ≤ k) → wpList P ops Q rest (a.put o.dst v') w') :
    wpList P ops Q (o :: rest) a w := by
  refine wpList_plain hg fun K hK' => ?_
  obtain ⟨v', w', hrun, r1, r2, r3⟩ := run_append_keep (P := P) w base t o.type e i z size bytes h1 h2 h3 h4 h5 h6 h7 v k xs hown ad m c news hn hc h1c b1 b2 b3
  unfold Oper.wp
  simp [execOp, hop, resolve, invoke, builtin, hs, hx, hrun, Result.andThen]
  exact hK' _ _ (hK v' w' r1 r2 r3)

theorem wpListIn_append_keep {F : Fence} {n : Nat} {P : Program} (w : World) {ops : Array Oper} {rest : List Oper} {o : Oper} {a : Act} {Q : Exit → Act → World → Prop}
    (hg : o.guard = none) (s x : Operand) (t : TypeId) (hop : o.op = Op.call { callee := Callee.builtin Builtin.append, args := #[s, x], argTypes := #[t, t] })
    (base : Nat) (e : TypeId) (i : TypeInfo) (z : Value) (size bytes : Nat) (h1 : P.underlying t = some (.slice e)) (h2 : P.info? e = some i) (h3 : i.zero = some z) (h4 : i.size = size) (h5 : i.bytes = bytes) (h6 : z.cells.size = size) (h7 : 0 < size)
    (v : Value) (k : Nat) (xs : List Value) (hs : a.eval s = v) (hown : w.ownsRow base e size v k xs) (ad : Addr) (m c : Nat) (news : List Value) (hx : a.eval x = .slice (some ad) m c) (hn : news.length = m * size)
    (hc : ∀ j u, news[j]? = some u → w.cell? (ad.add j) = some u) (h1c : ∀ u ∈ news, u.oneCell' = true) (b1 : k + m ≤ maxLen) (b2 : (k + m) * bytes ≤ 140737488355328) (b3 : base ≤ w.heap.size)
    (hK : ∀ v' w', w'.ownsRow base e size v' (k + m) (xs ++ news) → w.grownBy w' v.ownBlock → (v'.ownBlock = v.ownBlock ∨ ∀ k, v'.ownBlock = some k → w.heap.size ≤ k) → wpListIn F n P ops Q rest (a.put o.dst v') w') :
    wpListIn F n P ops Q (o :: rest) a w := by
  refine wpListIn_plain hg fun K hK' => ?_
  obtain ⟨v', w', hrun, r1, r2, r3⟩ := run_append_keep (P := P) w base t o.type e i z size bytes h1 h2 h3 h4 h5 h6 h7 v k xs hown ad m c news hn hc h1c b1 b2 b3
  unfold Oper.wpIn
  refine ⟨?_, ?_⟩
  · simp [Oper.about, hop, resolve, Target.leads, Sem.run_pure]
  · rw [Oper.semAt_plain F _ _ (by rw [hop]; intro c hc'; cases hc')]
    simp [execOp, hop, resolve, invoke, builtin, hs, hx, hrun, Result.andThen]
    exact hK' _ _ (hK v' w' r1 r2 r3)

/-- A range over a function: what it owes is said of the iterator's one call. -/
theorem wpIn_range_own {F : Fence} {n : Nat} {P : Program} {g : Operand} {ps : Array Tmp} {assign body : Code} {Q : Exit → Act → World → Prop} {a : Act} {w : World}
    (hro : F.round = none) (h1 : 1 ≤ n) {gf : Nat} {lb : Array Value} (hg : a.eval g = .func (.func gf) #[] lb) (hFg : F.fn gf) (eg : ∀ args w, (callFunc gf args).run P w = .ok (.enter gf args) w)
    (hcall : ∀ fn, F.fn fn → ∀ R : LoopState → Option Code → Loop, (∀ st pe, Obj.loop (R st pe) = recOf st pe fn a.tmps ps assign body w.heap.size) → CallsIn F (n - 1) P gf (#[.func (.yield (w.heap.size + 1)) #[] #[]] ++ lb) ((w.alloc (.deferred (some []))).alloc (.loop (R .ready none))) fun e W =>
      (∃ v, e = .returned v) ∧
      ((W.heap[w.heap.size + 1]? = some (.loop (R .ready none)) ∧ Q .normal { a with defers := { target := .collected w.heap.size, args := #[] } :: a.defers } (W.putObj (w.heap.size + 1) (.loop (R .exhausted none)))) ∨
       (∃ c : Code, W.heap[w.heap.size + 1]? = some (.loop (R .done (some c))) ∧ c.wpIn F n P Q { a with defers := { target := .collected w.heap.size, args := #[] } :: a.defers } (W.putObj (w.heap.size + 1) (.loop (R .exhausted (some c))))))) :
    (Code.rangeFunc g ps assign body).wpIn F n P Q a w := by
  refine wpIn_rangeFunc ?_
  intro fn hfn
  rw [hro]
  refine ⟨w.heap.size + 1, [{ target := .collected w.heap.size, args := #[] }], (w.alloc (.deferred (some []))).alloc (recOf .ready none fn a.tmps ps assign body w.heap.size), { target := .fn (.func gf) lb, args := #[.func (.yield (w.heap.size + 1)) #[] #[]] }, ((w.alloc (.deferred (some []))).alloc (recOf .ready none fn a.tmps ps assign body w.heap.size)), gf,
    #[.func (.yield (w.heap.size + 1)) #[] #[]] ++ lb, ((w.alloc (.deferred (some []))).alloc (recOf .ready none fn a.tmps ps assign body w.heap.size)), run_enterLoop_outer _ _ _ _ _, ?_, ?_, ?_, fun _ => h1, ?_⟩
  · simp only [resolve, hg]
    simp [go_sem]
  · intro f' hf'; simp [Target.leads] at hf'; subst hf'; exact hFg
  · simp [invoke, go_sem, eg]
  · refine (hcall fn hfn (fun st pe => { state := st, pending := pe, fn, tmps := a.tmps, params := ps, assign, body, defers := w.heap.size }) (fun _ _ => rfl)).mono ?_
    rintro e W2 ⟨⟨v, rfl⟩, (⟨hl, hq⟩ | ⟨c, hl, hq⟩)⟩
    · exact ⟨none, _, run_endLoop (P := P) hl (by simp), hq⟩
    · exact ⟨some c, _, run_endLoop (P := P) hl (by simp), hq⟩
end Go.Proofs.YtcenagpkfimkbaaGreatDoor
/-
  tree.Tree: Kids.
-/
namespace Go.Proofs.YtcenagpkfimkbaaGreatDoor
open Go Go.RowKit

def selK (m : IM Int) (id : Int) (done : List Int) : List Int := done.filter fun x => decide (at0 m x = id)
def kidsL (m : IM Int) (id : Int) : List Int := (m.filter fun p => decide (p.2 = id)).map (·.1)
structure KInv (w wr : World) (mb : Nat) (m : IM Int) (id : Int) (done : List Int) (v : Value) : Prop where
  it : IterAt .i64 3 wr mb w.heap.size (mapV (Value.int .i64) m) done
  bl : Below w.heap.size w wr
  own : wr.ownsRow (w.heap.size + 1) 3 1 v (selK m id done).length ((selK m id done).map (Value.int .i64))
  sz : w.heap.size < wr.heap.size
  mbl : mb < w.heap.size

theorem selK_no {m : IM Int} {id : Int} {done : List Int} {x : Int} (h : at0 m x ≠ id) : selK m id (done ++ [x]) = selK m id done := by
  unfold selK; rw [List.filter_append]; simp [h]
theorem selK_yes {m : IM Int} {id : Int} {done : List Int} {x : Int} (h : at0 m x = id) : selK m id (done ++ [x]) = selK m id done ++ [x] := by
  unfold selK; rw [List.filter_append]; simp [h]
section
variable {w wr w2 w3 : World} {mb : Nat} {m : IM Int} {id : Int} {done : List Int} {v : Value} {x : Int}
theorem KInv.next (h : KInv w wr mb m id done v) (hit : IterAt .i64 3 w2 mb w.heap.size (mapV (Value.int .i64) m) (done ++ [x])) (hg : wr.grownBy w2 (some w.heap.size)) (hs : w2.heap.size = wr.heap.size) :
    IterAt .i64 3 w2 mb w.heap.size (mapV (Value.int .i64) m) (done ++ [x]) ∧ Below w.heap.size w w2 ∧ w2.ownsRow (w.heap.size + 1) 3 1 v (selK m id done).length ((selK m id done).map (Value.int .i64)) ∧ w.heap.size < w2.heap.size := by
  have hm : Moved (fun k => k = w.heap.size) wr w2 := Moved.of_grown hg (S := fun k => k = w.heap.size) (fun k e => by cases e; rfl)
  refine ⟨hit, ⟨hg.os.trans h.bl.os, hg.tape.trans h.bl.tape, hg.output.trans h.bl.output, by rw [hs]; exact h.bl.size, fun k hk => ?_⟩, hm.owns h.own (fun k hk e => ?_), by rw [hs]; exact h.sz⟩
  · rw [hg.block k (by have := h.bl.size; omega) (by simp; omega)]
    exact h.bl.block k hk
  · have := (h.own.lt k hk).1
    omega
theorem sel_len (h : KInv w wr mb m id done v) (hl : m.length ≤ 1000000) : (selK m id done).length ≤ 1000000000 := by
  have h1 : done.length ≤ (m.map (·.1)).length := by
    have hr : Rising m := (rising_mapV _ _).1 h.it.map.2
    have hn : (m.map (·.1)).Nodup := (List.pairwise_map.2 hr : (m.map (·.1)).Pairwise (fun a c => a < c)).imp (fun h => by omega)
    have hp : done.Perm ((m.map (·.1)).filter (fun x => done.contains x)) := by
      refine (List.perm_ext_iff_of_nodup h.it.nodup (hn.filter _)).2 fun x => ⟨fun hx => ?_, fun hx => ?_⟩
      · obtain ⟨u, hu⟩ := Option.isSome_iff_exists.1 (h.it.has x hx)
        rw [lk_mapV] at hu
        cases hm : lk m x with
        | none => rw [hm] at hu; cases hu
        | some y => exact List.mem_filter.2 ⟨List.mem_map.2 ⟨(x, y), (lk_some hr).1 hm, rfl⟩, List.contains_iff_mem.2 hx⟩
      · exact List.contains_iff_mem.1 (List.mem_filter.1 hx).2
    rw [hp.length_eq]
    exact List.length_filter_le _ _
  have h2 : (selK m id done).length ≤ done.length := List.length_filter_le _ _
  simp at h1
  omega
theorem sel_all (h : KInv w wr mb m id done v) (ha : ∀ x, (lk (mapV (Value.int .i64) m) x).isSome = true → x ∈ done) : ((selK m id done).mergeSort fun x y => decide (x ≤ y)) = kidsL m id := by
  have hr : Rising m := (rising_mapV _ _).1 h.it.map.2
  have hp := h.it.all ha
  have e1 : (mapV (Value.int .i64) m).map (·.1) = m.map (·.1) := by simp [mapV]
  rw [e1] at hp
  have e2 : (m.map (·.1)).filter (fun x => decide (at0 m x = id)) = kidsL m id := by
    unfold kidsL
    rw [List.filter_map]
    congr 1
    apply List.filter_congr
    intro p hp
    have : lk m p.1 = some p.2 := (lk_some hr).2 hp
    simp [at0, this]
  refine sort_rising ((hp.filter _).trans (by rw [e2])) ?_
  have : (m.map (·.1)).Pairwise (fun a c => a < c) := List.pairwise_map.2 hr
  rw [← e2]
  exact this.filter _
theorem below_row (h : Below w.heap.size w wr) (hg : wr.grownBy w3 v.ownBlock) (hv : ∀ k, v.ownBlock = some k → w.heap.size ≤ k) : Below w.heap.size w w3 :=
  ⟨hg.os.trans h.os, hg.tape.trans h.tape, hg.output.trans h.output, Nat.le_trans h.size hg.size, fun k hk => (hg.block k (Nat.lt_of_lt_of_le hk h.size) (fun e => by have := hv k e.symm; omega)).trans (h.block k hk)⟩
theorem owns_low {B B' : Nat} {t : TypeId} {size n : Nat} {v : Value} {xs : List Value} (h : w.ownsRow B t size v n xs) (hb : B' ≤ B) : w.ownsRow B' t size v n xs :=
  ⟨h.1, h.2.elim .inl fun ⟨g, cap, cur, hv, hg, r⟩ => .inr ⟨g, cap, cur, hv, Nat.le_trans hb hg, r⟩⟩
theorem KInv.app {v' : Value} {o : Obj} (hit : IterAt .i64 3 w2 mb w.heap.size (mapV (Value.int .i64) m) (done ++ [x])) (hbl : Below w.heap.size w w2) (hown : w2.ownsRow (w.heap.size + 1) 3 1 v (selK m id done).length ((selK m id done).map (Value.int .i64))) (hsz : w.heap.size < w2.heap.size) (hmb : mb < w.heap.size) (hx : at0 m x = id)
    (ho : w3.ownsRow (w.heap.size + 1) 3 1 v' ((selK m id done).length + 1) ((selK m id done).map (Value.int .i64) ++ [.int .i64 x])) (hg : (w2.alloc o).grownBy w3 v.ownBlock) : KInv w w3 mb m id (done ++ [x]) v' := by
  have hv : ∀ k, v.ownBlock = some k → w.heap.size + 1 ≤ k := fun k hk => (hown.lt k hk).1
  have hw2 : (w2.alloc o).heap.size = w2.heap.size + 1 := by simp
  refine ⟨(hit.moved (World.grownBy_alloc w2 o none) (by simp) (by simp)).moved hg (fun e => by have := hv _ e.symm; omega) (fun e => by have := hv _ e.symm; omega), below_row (wr := w2.alloc o) (hbl.alloc (by omega) _) hg (fun k hk => by have := hv k hk; omega), by rw [selK_yes hx]; simpa using ho, by have := hg.size; omega, hmb⟩
theorem left_app {o : Obj} (hown : w2.ownsRow (w.heap.size + 1) 3 1 v (selK m id done).length ((selK m id done).map (Value.int .i64))) (hsz : w.heap.size < w2.heap.size) (hmb : mb < w.heap.size) (hg : (w2.alloc o).grownBy w3 v.ownBlock) : w3.rangeLeft mb w.heap.size = w2.rangeLeft mb w.heap.size := by
  have hv : ∀ k, v.ownBlock = some k → w.heap.size + 1 ≤ k := fun k hk => (hown.lt k hk).1
  have key : ∀ k, k ≤ w.heap.size → w3.heap[k]? = w2.heap[k]? := fun k hk => by
    rw [hg.block k (by simp; omega) (fun e => by have := hv k e.symm; omega), (World.grownBy_alloc w2 o none).block k (by omega) (by simp)]
  unfold World.rangeLeft
  rw [key mb (by omega), key _ (Nat.le_refl _)]
theorem row_new (h : KInv w wr mb m id done v) : ∀ k, v.ownBlock = some k → w.heap.size ≤ k := fun k hk => by
  have := (h.own.lt k hk).1
  omega
end
set_option maxRecDepth 100000 in
set_option maxHeartbeats 2000000 in
theorem trKids_any {tb mb : Nat} {m : IM Int} {w : World} (h : TreeAt w tb mb m) (id : Int) (hl : m.length ≤ 1000000) :
    Calls Tryz.prog 106 #[.pointer (some ⟨tb, 0, none⟩), .int .i64 id] w fun e w' => ∃ v, e = .returned v ∧ Below w.heap.size w w' ∧ w'.ownsRow w.heap.size 3 1 v (kidsL m id).length ((kidsL m id).map (Value.int .i64)) := by
  have c0 := heap_cell h.blk 0
  simp at c0
  obtain ⟨w1, hr1, hi1, hg1, hs1⟩ := h.map.range Tryz.underlying3 Tryz.underlying61
  have HI : Hid (KInv w w1 mb m id [] (.slice none 0 0)) := Lib.hid ⟨hi1, ⟨hg1.os, hg1.tape, hg1.output, hg1.size, fun k hk => hg1.block k hk (by simp)⟩, World.ownsRow_nil _ _ _ _, by omega, h.map.lt⟩
  clear hi1 hg1 hs1
  go_enter Tryz.func106, Tryz.ntmps106
  go_wp2
  go_loopw [5, 6, 7] (fun o _ _ wr => ∃ done, Hid (KInv w wr mb m id done o)) (fun _ _ _ wr => wr.rangeLeft mb w.heap.size)
  case atStart => exact ⟨[], HI⟩
  case round =>
    obtain ⟨done, HV⟩ := hrel
    rcases HV.out.it.next Tryz.underlying3 0 with ⟨hall, hrun⟩ | ⟨x, u, w2, hu, hnd, hwf, hrun, hit, hg, hsz, hen, hlt⟩
    · have hp := sel_all HV.out hall
      have hS := SortOwn_any _ _ _ wr HV.out.own (sel_len HV.out hl)
      have HP := Lib.hid hp
      clear hall hp
      go_wp2_with fail
      refine hS.mono ?_
      rintro e w3 ⟨rfl, hg3, ho3⟩
      clear hS hrun
      rw [HP.out, show (selK m id done).length = (kidsL m id).length by rw [← HP.out]; simp] at ho3
      have H3 := Lib.hid (And.intro hg3 ho3)
      clear hg3 ho3
      go_wp2
      go_ret
      have hbk := row_new HV.out
      exact ⟨_, rfl, below_row HV.out.bl H3.out.1 hbk, owns_low H3.out.2 (by omega)⟩
    · obtain ⟨y, hy⟩ : ∃ y, u = .int .i64 y ∧ at0 m x = y ∧ (lk m x).isSome = true := by
        rw [lk_mapV] at hu
        cases hm : lk m x with
        | none => rw [hm] at hu; cases hu
        | some y => rw [hm] at hu; exact ⟨y, by simpa using hu.symm, by rw [at0, hm]; rfl, rfl⟩
      obtain ⟨rfl, hya, hys⟩ := hy
      have H2 := Lib.hid (KInv.next HV.out hit hg hsz)
      have HL := Lib.hid hlt
      clear hu hnd hit hg hlt hsz
      by_cases e : y = id
      · have y1 : (y == id) = true := by simpa using e
        obtain ⟨i0, hi0, hz0, hz1, hz2⟩ := info_parts info_int
        have hlen := sel_len HV.out hl
        have HN2 := Lib.hid (And.intro hlen (And.intro hya e))
        have hw2 := H2.out.2.2.2
        clear hya hys e hlen
        go_wp2_with (at_builtin; refine Hid.out ?_)
        refine Lib.hid ?_
        (refine wpList_append_keep _ rfl _ _ 58 rfl (w.heap.size + 1) 3 i0 (.int .i64 0) 1 8 Tryz.underlying58 hi0 hz0 hz1 hz2 rfl (by decide) _ _ _ rfl (H2.out.2.2.1.alloc _) ⟨w2.heap.size, 0, none⟩ 1 1 [.int .i64 x] rfl (by rfl) (World.news_of_block (cs := #[.int .i64 x]) (t := 3) (fr := (0, 0)) (heap_alloc_new w2 _)) (by simp [Value.oneCell']) (by have := HN2.out.1; unfold maxLen; omega) (by have := HN2.out.1; omega) (by simp; omega) ?_; intro v' w4 ho4 hg4 hk4)
        have hk5 : KInv w w4 mb m id (done ++ [x]) v' := KInv.app H2.out.1 H2.out.2.1 H2.out.2.2.1 H2.out.2.2.2 HV.out.mbl (HN2.out.2.1.trans HN2.out.2.2) ho4 hg4
        have HK5 := Lib.hid hk5
        have HL4 := Lib.hid (left_app H2.out.2.2.1 H2.out.2.2.2 HV.out.mbl hg4)
        clear hk5 ho4 hg4 hk4
        go_wp2
        go_roundw
        case rel => exact ⟨done ++ [x], HK5⟩
        case measure => rw [HL4.out]; exact HL.out
      · have y1 : (y == id) = false := by simpa using e
        have HN : Hid (KInv w w2 mb m id (done ++ [x]) u5) := Lib.hid (by
          have := H2.out
          exact ⟨this.1, this.2.1, by rw [selK_no (by rw [hya]; exact e)]; exact this.2.2.1, this.2.2.2, HV.out.mbl⟩)
        clear hya hys e
        go_wp2
        go_roundw
        case rel => exact ⟨done ++ [x], HN⟩
        case measure => exact HL.out
end Go.Proofs.YtcenagpkfimkbaaGreatDoor
/-
  heap.Heap: Delete, refused.
-/
namespace Go.Proofs.YtcenagpkfimkbaaGreatDoor
open Go Go.RowKit

def delE (H : HM) (r : Int) : Int := if livesB H r = false then 2 else if kidsL H.par r ≠ [] then 6 else if 0 < at0 H.cnt r then 7 else 0

set_option maxRecDepth 100000 in
set_option maxHeartbeats 2000000 in
theorem hDelBad_any {B : HB} {H : HM} {O0 O1 : Obj} {w : World} {S : Nat → Prop} (h : HeapSt B H O0 O1 w S) (hF : Fine H) (r : Int) (r0 : 0 ≤ r) (r1 : r ≤ 18446744073709551615) (hbad : delE H r ≠ 0) :
    Calls Tryz.prog 62 #[.pointer (some ⟨B.hb, 0, none⟩), .int .u64 r] w fun e w' => e = .returned (.int .i64 (delE H r)) ∧ Below w.heap.size w w' := by
  have hL := hlives_any h hF r r0 r1
  have HH := Lib.hid (And.intro h hF)
  cases hlv : livesB H r
  · have e1 : Hid (delE H r = 2) := Lib.hid (by rw [delE, if_pos hlv])
    rw [hlv] at hL
    obtain ⟨y, hy⟩ : ∃ y, IntKind.i64.wrap r = y := ⟨_, rfl⟩
    rw [hy] at hL
    clear h hF hbad hlv hy
    go_enter Tryz.func62, Tryz.ntmps62
    go_wp2_with fail
    refine hL.mono ?_
    rintro e w1 ⟨rfl, hb1⟩
    go_wp2
    go_ret
    exact ⟨by rw [e1.out]; rfl, hb1⟩
  · have hle := (livesB_le hlv).1
    have l1 := hF.l1
    rw [hlv, show IntKind.i64.wrap r = r by rw [IntKind.wrap_i64]; omega] at hL
    have e0 : delE H r = if kidsL H.par r ≠ [] then 6 else if 0 < at0 H.cnt r then 7 else 0 := by rw [delE, if_neg (by rw [hlv]; simp)]
    have hK := fun (w' : World) (hb : Below w.heap.size w w') => trKids_any (HH.out.1.later hb).tree r HH.out.2.pl
    have HK := Lib.hid hK
    have hC := fun (w' : World) (hb : Below w.heap.size w w') => taOf_any (HH.out.1.later hb).counts r (by omega) (by omega)
    have HC := Lib.hid hC
    by_cases hk : kidsL H.par r = []
    · have hcp : 0 < at0 H.cnt r := by
        rw [e0, if_neg (by simpa using hk)] at hbad
        by_cases hc : 0 < at0 H.cnt r
        · exact hc
        · rw [if_neg hc] at hbad; exact absurd rfl hbad
      have e1 : Hid (delE H r = 7) := Lib.hid (by rw [e0, if_neg (by simpa using hk), if_pos hcp])
      have y1 : decide (at0 H.cnt r > 0) = true := by simpa using hcp
      have HKE := Lib.hid hk
      clear h hF hbad hlv hK hC hk e0 l1
      go_enter Tryz.func62, Tryz.ntmps62
      go_wp2_with fail
      refine hL.mono ?_
      rintro e w1 ⟨rfl, hb1⟩
      have c5 := heap_cell (HH.out.1.later hb1).blk 5
      simp at c5
      have hk1 := HK.out w1 hb1
      have HB1 := Lib.hid hb1
      clear hL hb1
      go_wp2_with fail
      refine hk1.mono ?_
      rintro e w2 ⟨v, rfl, hb2, hv⟩
      have hb3 := HB1.out.trans (hb2.mono HB1.out.size)
      rw [HKE.out] at hv
      have c7 := heap_cell (HH.out.1.later hb3).blk 7
      simp at c7
      have hc1 := HC.out w2 hb3
      have HB3 := Lib.hid hb3
      rcases hv.2 with ⟨rfl, _⟩ | ⟨g, cap, cur, rfl, _⟩
      all_goals
        clear hk1 hb2 hb3 hv c5
        go_wp2_with fail
        refine hc1.mono ?_
        rintro e w3 ⟨rfl, rfl⟩
        go_wp2
        go_ret
        exact ⟨by rw [e1.out]; rfl, HB3.out⟩
    · have e1 : Hid (delE H r = 6) := Lib.hid (by rw [e0, if_pos hk])
      have hlen : 0 < (kidsL H.par r).length := List.length_pos_iff.2 hk
      clear h hF hbad hlv hK hC hk e0 l1
      go_enter Tryz.func62, Tryz.ntmps62
      go_wp2_with fail
      refine hL.mono ?_
      rintro e w1 ⟨rfl, hb1⟩
      have c5 := heap_cell (HH.out.1.later hb1).blk 5
      simp at c5
      have hk1 := HK.out w1 hb1
      have HB1 := Lib.hid hb1
      clear hL hb1
      go_wp2_with fail
      refine hk1.mono ?_
      rintro e w2 ⟨v, rfl, hb2, hv⟩
      have hb3 := HB1.out.trans (hb2.mono HB1.out.size)
      have HB3 := Lib.hid hb3
      obtain ⟨n, hn⟩ : ∃ n, (kidsL H.par r).length = n := ⟨_, rfl⟩
      rw [hn] at hv hlen
      rcases hv.2 with ⟨rfl, hz⟩ | ⟨g, cap, cur, rfl, _⟩
      · omega
      · have y1 : decide ((n : Int) > 0) = true := by simp; omega
        clear hk1 hb2 hb3 hv c5 hn
        go_wp2
        go_ret
        exact ⟨by rw [e1.out]; rfl, HB3.out⟩
end Go.Proofs.YtcenagpkfimkbaaGreatDoor
/-
  heap.Heap: Region.
-/
namespace Go.Proofs.YtcenagpkfimkbaaGreatDoor
open Go Go.RowKit

/-- The part of an arena's number. -/
theorem heapP_arena (B : HB) (H : HM) (O0 O1 : Obj) {id : Int} (h : 1 ≤ id) : heapP B H O0 O1 (20 + id.toNat) = arenaP B.pb (lk H.ar id) := by
  have e : (((20 + id.toNat) - 20 : Nat) : Int) = id := by omega
  simp only [heapP]
  rw [if_neg (by omega), if_neg (by omega), if_neg (by omega), if_neg (by omega), if_neg (by omega), if_neg (by omega), if_neg (by omega), if_neg (by omega), if_neg (by omega), if_neg (by omega), if_neg (by omega), if_neg (by omega), if_pos (by omega), e]
/-- A new arena. -/
theorem HeapSt.arStep {B : HB} {H : HM} {O0 O1 : Obj} {w : World} {S : Nat → Prop} (h : HeapSt B H O0 O1 w S) {id : Int} (hid : 1 ≤ id) {A : AR} {w1 w' : World}
    (hb : Below w.heap.size w w1) {vr vt : Value} (hA : ArenaAt w1 A.ab A.plb B.pb A.pg A.us vr vt A.rs A.ts) (hn : ∀ k, k = A.ab ∨ k = A.plb ∨ vr.ownBlock = some k ∨ vt.ownBlock = some k → w.heap.size ≤ k)
    (hm : w1.mapTurned w' B.am) (hM : MapAt .i64 3 w' B.am (mput (arMap H.ar) id (ptrV A.ab))) :
    ∃ S', HeapSt B { H with ar := mput H.ar id A } O0 O1 w' S' ∧ Grows S S' w w' := by
  have hris : Rising H.ar := (rising_mapV _ _).1 h.arenas.rising
  obtain ⟨S1, S2, h1, h2, hd, hs, hc⟩ := Sep.open2 (heapP_ok B H O0 O1) h 8 (20 + id.toNat) (by omega) (by omega) (by omega)
  have e1 : ∀ k, S1 k ↔ k = B.am := h1.2
  have hlt : B.am < w.heap.size := (MapP.ok _ _).lt h1 _ ((e1 _).2 rfl)
  have hm' : Moved (fun q => q = B.am) w w' := (Moved.of_below hb (fun q => q = B.am)).trans (Moved.turned hm) (fun q e => .inl e)
  obtain ⟨S', h', hg⟩ := hc w' S1 (fun k => k = A.ab ∨ k = A.plb ∨ vr.ownBlock = some k ∨ vt.ownBlock = some k) (MapP B.am (arMap (mput H.ar id A))) (arenaP B.pb (some A)) ⟨by unfold arMap at hM ⊢; rw [← mput_mapV]; exact hM, e1⟩ ⟨vr, vt, hA.moved (Moved.turned hm) (fun e => by have := hn _ (.inl rfl); omega) (fun e => by have := hn _ (.inr (.inl rfl)); omega) (fun k e f => by have := hn k (.inr (.inr (.inl e))); omega) (fun k e f => by have := hn k (.inr (.inr (.inr e))); omega), fun k => Iff.rfl⟩ (fun k hk hk2 => by have := hn k hk2; have := (e1 k).1 hk; omega) ⟨(Moved.refl _ w).trans hm' (fun k e => .inl (.inl ((e1 k).2 e))), fun k hk => hk.elim (fun e => .inl (.inl e)) (fun e => .inr (hn k e))⟩
  refine ⟨S', ?_, hg⟩
  have : upd (upd (heapP B H O0 O1) 8 (MapP B.am (arMap (mput H.ar id A)))) (20 + id.toNat) (arenaP B.pb (some A)) = heapP B { H with ar := mput H.ar id A } O0 O1 := by
    funext j
    by_cases ej : j = 20 + id.toNat
    · subst ej
      rw [upd_same, heapP_arena _ _ _ _ hid]
      simp only [lk_put hris, if_true]
    · rw [upd_ne _ _ ej]
      by_cases e8 : j = 8
      · subst e8; rw [upd_same]; rfl
      · rw [upd_ne _ _ e8]
        simp only [heapP]
        rw [if_neg e8, if_neg e8]
        by_cases e20 : 20 < j
        · rw [lk_put hris, if_neg (show ¬ ((j - 20 : Nat) : Int) = id by omega)]
        · rw [if_neg e20, if_neg e20]
  rw [this] at h'
  exact h'
theorem HeapSt.bookStep {B : HB} {H : HM} {O0 O1 : Obj} {w : World} {S : Nat → Prop} (h : HeapSt B H O0 O1 w S) {l : IM Unit} {last : Int} {w' : World} (hm : Moved (fun q => q = B.bb ∨ q = B.bm) w w') (ht : BookAt w' B.bb B.bm l last 64) :
    ∃ S', HeapSt B { H with live := l, last := last } O0 O1 w' S' ∧ Grows S S' w w' := by
  obtain ⟨S0, h0, hs, hc⟩ := h.step 6 (by omega) { H with live := l, last := last } (upd_eq fun j hj => by simp only [heapP]; rw [if_neg hj, if_neg hj])
  have e0 := h0.2
  refine hc w' S0 ⟨ht, e0⟩ ⟨(Moved.refl S0 w).trans hm (fun k hk => .inl ((e0 k).2 hk)), fun k hk => .inl hk⟩
theorem HeapSt.treeStep {B : HB} {H : HM} {O0 O1 : Obj} {w : World} {S : Nat → Prop} (h : HeapSt B H O0 O1 w S) {m : IM Int} {w' : World} (hm : Moved (fun q => q = B.tm) w w') (ht : TreeAt w' B.tb B.tm m) :
    ∃ S', HeapSt B { H with par := m } O0 O1 w' S' ∧ Grows S S' w w' := by
  obtain ⟨S0, h0, hs, hc⟩ := h.step 7 (by omega) { H with par := m } (upd_eq fun j hj => by simp only [heapP]; rw [if_neg hj, if_neg hj])
  have e0 := h0.2
  refine hc w' S0 ⟨ht, e0⟩ ⟨(Moved.refl S0 w).trans hm (fun k hk => .inl ((e0 k).2 (.inr hk))), fun k hk => .inl hk⟩

def rgE (H : HM) (p : Int) : Int := if p ≠ 0 ∧ livesB H p = false then 2 else gvE H.live 64
def rgN (H : HM) (p : Int) : Int := if rgE H p = 0 then H.last + 1 else 0
def rgH (H : HM) (p : Int) (ab plb : Nat) : HM :=
  if rgE H p = 0 then { H with live := gvL H.live H.last 64, last := H.last + 1, par := trL H.par (H.last + 1) p, ar := mput H.ar (H.last + 1) ⟨ab, plb, -1, 16, [], []⟩ } else H

set_option maxRecDepth 100000 in
set_option maxHeartbeats 2000000 in
theorem hRegion_any {B : HB} {H : HM} {O0 O1 : Obj} {w : World} {S : Nat → Prop} (h : HeapSt B H O0 O1 w S) (hF : Fine H) (hal : H.ar.length ≤ 1000000) (p : Int) (p0 : 0 ≤ p) (p1 : p ≤ 18446744073709551615) :
    Calls Tryz.prog 58 #[.pointer (some ⟨B.hb, 0, none⟩), .int .u64 p] w fun e w' => e = .returned (.tuple #[.int .u64 (rgN H p), .int .i64 (rgE H p)]) ∧ ∃ ab plb S', HeapSt B (rgH H p ab plb) O0 O1 w' S' ∧ Grows S S' w w' := by
  have hL := hlives_any h hF p p0 p1
  have HH := Lib.hid h
  have l0 := hF.l0
  have l1 := hF.l1
  have ll := hF.ll
  have pl := hF.pl
  by_cases c1 : p ≠ 0 ∧ livesB H p = false
  · have e1 : Hid (rgE H p = 2) := Lib.hid (if_pos c1)
    have e2 : Hid (rgN H p = 0) := Lib.hid (by rw [rgN, e1.out]; rfl)
    have e3 : Hid (∀ ab plb, rgH H p ab plb = H) := Lib.hid (fun ab plb => by rw [rgH, e1.out]; rfl)
    rw [c1.2] at hL
    have z1 : (p != 0) = true := by simpa using c1.1
    obtain ⟨y, hy⟩ : ∃ y, IntKind.i64.wrap p = y := ⟨_, rfl⟩
    rw [hy] at hL
    clear h hF c1 hy
    go_enter Tryz.func58, Tryz.ntmps58
    go_wp2_with fail
    refine hL.mono ?_
    rintro e w1 ⟨rfl, hb1⟩
    go_wp2
    go_ret2
    exact ⟨by rw [e1.out, e2.out]; rfl, 0, 0, S, by rw [e3.out]; exact HH.out.later hb1, Grows.below hb1⟩
  · have hw : IntKind.i64.wrap p = p := by
      by_cases z : p = 0
      · subst z; rfl
      · cases hb : livesB H p
        · exact absurd ⟨z, hb⟩ c1
        · have := (livesB_le hb).1
          rw [IntKind.wrap_i64]; omega
    have c2 : ((p != 0) = false) ∨ ((p != 0) = true ∧ livesB H p = true) := by
      by_cases z : p = 0
      · exact .inl (by simp [z])
      · cases hb : livesB H p
        · exact absurd ⟨z, hb⟩ c1
        · exact .inr ⟨by simpa using z, rfl⟩
    rw [hw] at hL
    have ple : p ≤ 1000000 := by
      by_cases z : p = 0
      · omega
      · cases hb : livesB H p
        · exact absurd ⟨z, hb⟩ c1
        · have := (livesB_le hb).1; omega
    have e1 : Hid (rgE H p = gvE H.live 64) := Lib.hid (if_neg c1)
    have hG := fun (w' : World) (hb : Below w.heap.size w w') => iGive_any (HH.out.later hb).book l0 (by omega) (by omega)
    obtain ⟨lv, hlv⟩ : ∃ lv, livesB H p = lv := ⟨_, rfl⟩
    rw [hlv] at hL c2
    by_cases c3 : (64 : Int) ≤ H.live.length
    · have q1 : gvE H.live 64 = 3 := if_pos c3
      have q2 : gvN H.live H.last 64 = 0 := if_pos c3
      have e2 : Hid (rgE H p = 3) := Lib.hid (by rw [e1.out, q1])
      have e3 : Hid (rgN H p = 0) := Lib.hid (by rw [rgN, e2.out]; rfl)
      have e4 : Hid (∀ ab plb, rgH H p ab plb = H) := Lib.hid (fun ab plb => by rw [rgH, e2.out]; rfl)
      have q3 : gvL H.live H.last 64 = H.live := if_pos c3
      have q4 : gvT H.live H.last 64 = H.last := if_pos c3
      simp only [q1, q2, q3, q4] at hG
      have HG := Lib.hid hG
      clear h hF c1 hw hG hlv c3 q1 q2 q3 q4 e1 l0 l1 ll pl
      rcases c2 with z1 | ⟨z1, rfl⟩
      all_goals
        go_enter Tryz.func58, Tryz.ntmps58
        go_wp2_with fail
        refine hL.mono ?_
        rintro e w1 ⟨rfl, hb1⟩
        clear hL
        have hG1 := HG.out w1 hb1
        have c5 := heap_cell (HH.out.later hb1).blk 4
        simp at c5
        have HB := Lib.hid hb1
        clear hb1
        go_wp2_with fail
        refine hG1.mono ?_
        rintro e w2 ⟨rfl, hm, ht⟩
        clear hG1
        go_wp2
        go_ret2
        obtain ⟨S', hs', hgr⟩ := (HH.out.later HB.out).bookStep hm ht
        exact ⟨by rw [e2.out, e3.out]; rfl, 0, 0, S', by rw [e4.out]; exact hs', Grows.after_below HB.out hgr⟩
    · have q1 : gvE H.live 64 = 0 := if_neg c3
      have q2 : gvN H.live H.last 64 = H.last + 1 := if_neg c3
      have q4 : gvT H.live H.last 64 = H.last + 1 := if_neg c3
      have e2 : Hid (rgE H p = 0) := Lib.hid (by rw [e1.out, q1])
      have e3 : Hid (rgN H p = H.last + 1) := Lib.hid (by rw [rgN, e2.out]; rfl)
      have e4 : Hid (∀ ab plb, rgH H p ab plb = { H with live := gvL H.live H.last 64, last := H.last + 1, par := trL H.par (H.last + 1) p, ar := mput H.ar (H.last + 1) ⟨ab, plb, -1, 16, [], []⟩ }) := Lib.hid (fun ab plb => by rw [rgH, e2.out]; rfl)
      simp only [q1, q2, q4] at hG
      have HG := Lib.hid hG
      obtain ⟨id, hid⟩ : ∃ id, H.last + 1 = id := ⟨_, rfl⟩
      rw [hid] at HG e3 e4
      have i1 : 1 ≤ id := by omega
      have i2 : id ≤ 1000001 := by omega
      have hw2 : IntKind.u64.wrap id = id := by rw [IntKind.wrap_u64]; omega
      clear h hF c1 hw hG hlv c3 q1 q2 q4 e1 l0 l1 ll hid
      have PL := Lib.hid pl
      have AL := Lib.hid hal
      clear pl hal
      rcases c2 with z1 | ⟨z1, rfl⟩
      all_goals
        go_enter Tryz.func58, Tryz.ntmps58
        go_wp2_with fail
        refine hL.mono ?_
        rintro e w1 ⟨rfl, hb1⟩
        clear hL
        have hG1 := HG.out w1 hb1
        have c5 := heap_cell (HH.out.later hb1).blk 4
        simp at c5
        have HB := Lib.hid hb1
        clear hb1
        go_wp2_with fail
        refine hG1.mono ?_
        rintro e w2 ⟨rfl, hm, ht⟩
        clear hG1
        obtain ⟨S2, hs2, hgr2⟩ := (HH.out.later HB.out).bookStep hm ht
        have H2 := Lib.hid (And.intro hs2 (Grows.after_below HB.out hgr2))
        clear hm ht hs2 hgr2
        have c6 := heap_cell H2.out.1.blk 5
        simp at c6
        have hT := trAdd_any H2.out.1.tree id p (by omega) (by omega) (by omega) (by omega) (by have := PL.out; exact Nat.le_trans this (by omega))
        obtain ⟨te, hte⟩ : ∃ te, trE H.par id p = te := ⟨_, rfl⟩
        rw [hte] at hT
        go_wp2_with fail
        refine hT.mono ?_
        rintro e w3 ⟨rfl, hm, ht⟩
        clear hT hte
        obtain ⟨S3, hs3, hgr3⟩ := H2.out.1.treeStep hm ht
        have H3 := Lib.hid (And.intro hs3 (H2.out.2.trans hgr3))
        clear hm ht hs3 hgr3
        have c7 := heap_cell H3.out.1.blk 0
        have c8 := heap_cell H3.out.1.blk 6
        simp at c7 c8
        go_wp2
        have c9 := H3.out.1.blk
        have hA := fun (nq : Nat) => arNew_any B.pb (w3.drewN nq) (H3.out.1.tabs.2.moved (Moved.drewN (fun _ => False) w3 nq) (fun e => e))
        have hMS := fun (w4 : World) (hb : Below w3.heap.size w3 w4) (ab : Nat) => (H3.out.1.arenas.later hb).store Tryz.underlying3 Tryz.underlying112 (by unfold arMap; rw [mapV_length]; have := AL.out; unfold maxLen; exact Nat.lt_of_le_of_lt this (by decide)) id (ptrV ab) (wf_i64 (by omega) (by omega))
        have hbd : ∀ nq : Nat, Below w3.heap.size w3 (w3.drewN nq) := fun nq => ⟨rfl, rfl, rfl, Nat.le_refl _, fun _ _ => rfl⟩
        have HM := Lib.hid (And.intro hMS hbd)
        clear hMS hbd c9
        go_region_with (refine (hA _).mono ?_; rintro e w4 ⟨ab, plb, rfl, hb4, hA4, n1, n2⟩; have hb5 := (HM.out.2 _).trans (Below.mono hb4 (HM.out.2 _).size); obtain ⟨w5, hs5, hM5, ht5⟩ := HM.out.1 w4 hb5 ab; unfold ptrV at hs5; have k7 := heap_cell (H3.out.1.later hb5).blk 0; have k8 := heap_cell (H3.out.1.later hb5).blk 6; simp at k7 k8; have H5 := Lib.hid (And.intro hA4 (And.intro n1 (And.intro n2 (And.intro hb5 (And.intro hM5 ht5))))); clear hb4 hA4 n1 n2 hb5 hM5 ht5)
        all_goals
          go_wp2
          go_ret2
          obtain ⟨S4, hs4, hgr4⟩ := H3.out.1.arStep i1 (A := ⟨ab, plb, -1, 16, [], []⟩) H5.out.2.2.2.1 H5.out.1 (fun k hk => hk.elim (fun e => e ▸ Nat.le_trans (Nat.le_refl _) H5.out.2.1) (fun e => e.elim (fun e => e ▸ H5.out.2.2.1) (fun e => e.elim (fun e => by cases e) (fun e => by cases e)))) H5.out.2.2.2.2.2 H5.out.2.2.2.2.1
          exact ⟨by rw [e2.out, e3.out]; rfl, ab, plb, S4, by rw [e4.out]; exact hs4, H3.out.2.trans hgr4⟩
end Go.Proofs.YtcenagpkfimkbaaGreatDoor
